/- A pattern within a greater text: read as it is by itself, a level less if it is in brackets. -/
import Derived.Test.YtmlmnckhiianhaaDoorRxO
namespace Go.Proofs.YtmlmnckhiianhaaDoor
namespace Rx

/-- A reader that says of a level less the same, or that it is too deep. -/
def Less (f g : Nat → Except Nat (Rx × Nat)) : Prop := ∀ i x j, f i = .ok (x, j) → g i = .ok (x, j) ∨ g i = .error 9
theorem pPart_less {f g : Nat → Except Nat (Rx × Nat)} (hf : Less f g) (t : List Nat) : Less (pPart f t) (pPart g t) := fun i x j h => by
  unfold pPart at h ⊢
  split at h
  · cases h
  · rename_i c hc
    split at h
    · rename_i h40
      simp only [h40, if_true]
      split at h
      · cases h
      · rename_i y k hy
        rcases hf _ _ _ hy with e | e
        · rw [e]; exact .inl h
        · rw [e]; exact .inr rfl
    · rename_i h40
      simp only [if_neg h40]
      exact .inl h
theorem pTimes_less {f g : Nat → Except Nat (Rx × Nat)} (hf : Less f g) (t : List Nat) : Less (pTimes f t) (pTimes g t) := fun i x j h => by
  unfold pTimes at h ⊢
  split at h
  · cases h
  · rename_i y k hy
    rcases pPart_less hf t _ _ _ hy with e | e
    · rw [e]; exact .inl h
    · rw [e]; exact .inr rfl
theorem pParts_less {f g : Nat → Except Nat (Rx × Nat)} (hf : Less f g) (t : List Nat) : ∀ (k i : Nat) (l m : List Rx) (j : Nat), pParts f t k i l = .ok (m, j) → pParts g t k i l = .ok (m, j) ∨ pParts g t k i l = .error 9
  | 0, i, l, m, j, h => .inl h
  | k + 1, i, l, m, j, h => by
    unfold pParts at h ⊢
    split at h
    · rename_i hc
      simp only [if_pos hc]
      split at h
      · cases h
      · rename_i y n hy
        rcases pTimes_less hf t _ _ _ hy with e | e
        · rw [e]; exact pParts_less hf t k n _ m j h
        · rw [e]; exact .inr rfl
    · rename_i hc
      simp only [if_neg hc]
      exact .inl h
theorem pRow_less {f g : Nat → Except Nat (Rx × Nat)} (hf : Less f g) (t : List Nat) : Less (pRow f t) (pRow g t) := fun i x j h => by
  unfold pRow at h ⊢
  split at h
  · cases h
  · rename_i l k hl
    rcases pParts_less hf t _ _ _ _ _ hl with e | e
    · rw [e]; exact .inl h
    · rw [e]; exact .inr rfl
theorem pBars_less {f g : Nat → Except Nat (Rx × Nat)} (hf : Less f g) (t : List Nat) : ∀ (k i : Nat) (l m : List Rx) (j : Nat), pBars f t k i l = .ok (m, j) → pBars g t k i l = .ok (m, j) ∨ pBars g t k i l = .error 9
  | 0, i, l, m, j, h => .inl h
  | k + 1, i, l, m, j, h => by
    unfold pBars at h ⊢
    split at h
    · rename_i hc
      simp only [if_pos hc]
      split at h
      · cases h
      · rename_i y n hy
        rcases pRow_less hf t _ _ _ hy with e | e
        · rw [e]; exact pBars_less hf t k n _ m j h
        · rw [e]; exact .inr rfl
    · rename_i hc
      simp only [if_neg hc]
      exact .inl h
theorem pPat_less (t : List Nat) : ∀ n, Less (pPat t (n + 1)) (pPat t n)
  | 0 => fun i x j h => .inr rfl
  | n + 1 => fun i x j h => by
    have ih := pPat_less t n
    unfold pPat at h ⊢
    split at h
    · cases h
    · rename_i y k hy
      split at h
      · cases h
      · rename_i l m hl
        rcases pRow_less ih t _ _ _ hy with e | e
        · rw [e]
          rcases pBars_less ih t _ _ _ _ _ hl with e2 | e2
          · simp only [e2]; exact .inl h
          · simp only [e2]; exact .inr trivial
        · rw [e]; exact .inr rfl

/-- t lies in T, o places in; behind it stands what ends a pattern. -/
structure Within (t T : List Nat) (o : Nat) : Prop where
  get : ∀ i c, t[i]? = some c → T[o + i]? = some c
  none : T[o + t.length]? = some 41
theorem Within.len {t T : List Nat} {o : Nat} (h : Within t T o) : o + t.length < T.length := get_lt h.none
theorem Within.eq {t T : List Nat} {o i c : Nat} (h : Within t T o) (hi : i ≤ t.length) (hc : c ≠ 41) : (T[o + i]? = some c) = (t[i]? = some c) := by
  by_cases hlt : i < t.length
  · rw [h.get i _ (List.getElem?_eq_getElem hlt), List.getElem?_eq_getElem hlt]
  · have : i = t.length := by omega
    subst this
    rw [h.none, List.getElem?_eq_none (Nat.le_refl _)]
    simp
    omega
theorem Within.lt {t T : List Nat} {o i : Nat} (h : Within t T o) (hi : i < t.length) : T[o + i]? = t[i]? := by
  rw [h.get i _ (List.getElem?_eq_getElem hi), List.getElem?_eq_getElem hi]

theorem pOne_eq (t : List Nat) (i : Nat) : pOne t i = if t[i]? = some 92 then (match t[i + 1]? with | none => .error 27 | some c => .ok (c, i + 2)) else (match t[i]? with | none => .error 27 | some c => .ok (c, i + 1)) := by
  unfold pOne
  by_cases h : t[i]? = some 92
  · simp only [h, if_true]; cases t[i + 1]? <;> rfl
  · simp only [h, if_false]; cases t[i]? <;> rfl
theorem pOne_with {t T : List Nat} {o i c j : Nat} (h : Within t T o) (hi : i ≤ t.length) (hp : pOne t i = .ok (c, j)) : pOne T (o + i) = .ok (c, o + j) := by
  rw [pOne_eq] at hp ⊢
  simp only [h.eq hi (show (92 : Nat) ≠ 41 by decide)]
  by_cases h92 : t[i]? = some 92
  · rw [if_pos h92] at hp ⊢
    split at hp
    · cases hp
    · rename_i d hd
      injection hp with hp
      injection hp with e1 e2
      subst e1 e2
      rw [show o + i + 1 = o + (i + 1) by omega, h.get _ _ hd]
      rfl
  · rw [if_neg h92] at hp ⊢
    split at hp
    · cases hp
    · rename_i d hd
      injection hp with hp
      injection hp with e1 e2
      subst e1 e2
      rw [h.get _ _ hd]
      rfl
theorem pItem_with {t T : List Nat} {o i j : Nat} {p : Nat × Nat} (h : Within t T o) (hi : i ≤ t.length) (hp : pItem t i = .ok (p, j)) : pItem T (o + i) = .ok (p, o + j) := by
  unfold pItem at hp ⊢
  split at hp
  · cases hp
  · rename_i low k hk
    have hk2 := pOne_in hk
    rw [pOne_with h hi hk]
    simp only [h.eq hk2 (show (45 : Nat) ≠ 41 by decide)]
    split at hp
    · rename_i h45
      simp only [h45, if_true]
      split at hp
      · cases hp
      · rename_i high m hm
        rw [show o + k + 1 = o + (k + 1) by omega, pOne_with h (by have := get_lt h45; omega) hm]
        simp only
        split at hp
        · cases hp
        · rename_i hhl
          rw [if_neg hhl]
          injection hp with hp
          injection hp with e1 e2
          rw [e1, e2]
    · rename_i h45
      simp only [h45, if_false]
      injection hp with hp
      injection hp with e1 e2
      rw [e1, e2]
theorem pItems_with {t T : List Nat} {o : Nat} (h : Within t T o) : ∀ (f F i : Nat) (P : Nat → Bool) {j : Nat} {Q : Nat → Bool}, f ≤ F → i ≤ t.length → pItems t f i P = .ok (Q, j) → pItems T F (o + i) P = .ok (Q, o + j)
  | 0, _, _, _, _, _, _, _, hp => by cases hp
  | f + 1, 0, i, P, j, Q, hF, hi, hp => by omega
  | f + 1, F + 1, i, P, j, Q, hF, hi, hp => by
    unfold pItems at hp ⊢
    split at hp
    · cases hp
    · rename_i low high k hk
      rw [pItem_with h hi hk]
      have hk2 := pItem_in hk
      simp only at hp ⊢
      simp only [h.eq hk2 (show (93 : Nat) ≠ 41 by decide)]
      split at hp
      · rename_i h93
        simp only [h93, if_true]
        injection hp with hp
        injection hp with e1 e2
        rw [e1, ← e2]
        rfl
      · rename_i h93
        simp only [h93, if_false]
        exact pItems_with h f F k _ (by omega) hk2 hp
theorem clsOf_with {neg : Bool} {R S : Except Nat ((Nat → Bool) × Nat)} {x : Rx} {o j : Nat} (hr : ∀ P k, R = .ok (P, k) → S = .ok (P, o + k)) (h : clsOf neg R = .ok (x, j)) : clsOf neg S = .ok (x, o + j) := by
  cases R with
  | error e => cases h
  | ok p =>
    obtain ⟨P, k⟩ := p
    rw [hr P k rfl]
    simp only [clsOf] at h ⊢
    injection h with h
    injection h with h1 h2
    rw [h1, h2]
theorem pClass_with {t T : List Nat} {o i j : Nat} {x : Rx} (h : Within t T o) (hi : i ≤ t.length) (hp : pClass t i = .ok (x, j)) : pClass T (o + i) = .ok (x, o + j) := by
  have hlen := h.len
  unfold pClass at hp ⊢
  simp only [h.eq hi (show (94 : Nat) ≠ 41 by decide)]
  split at hp
  · rename_i h94
    simp only [h94, if_true]
    rw [show o + i + 1 = o + (i + 1) by omega]
    exact clsOf_with (fun P k hk => pItems_with h _ _ _ _ (by omega) (by have := get_lt h94; omega) hk) hp
  · rename_i h94
    simp only [h94, if_false]
    exact clsOf_with (fun P k hk => pItems_with h _ _ _ _ (by omega) hi hk) hp

/-- What is read there, is read here. -/
def Same (t : List Nat) (o : Nat) (f F : Nat → Except Nat (Rx × Nat)) : Prop := ∀ i, i ≤ t.length → (∀ x j, f i = .ok (x, j) → F (o + i) = .ok (x, o + j)) ∧ (f i = .error 9 → F (o + i) = .error 9)
theorem pClass_err {t : List Nat} {i : Nat} : pClass t i ≠ .error 9 := by
  have h1 : ∀ i, pOne t i ≠ .error 9 := fun i h => by
    unfold pOne at h; simp only at h; split at h <;> simp at h
  have h2 : ∀ i, pItem t i ≠ .error 9 := fun i h => by
    unfold pItem at h
    split at h
    · rename_i e he; injection h with h; subst h; exact h1 _ he
    · split at h
      · split at h
        · rename_i e he; injection h with h; subst h; exact h1 _ he
        · split at h <;> simp at h
      · simp at h
  have h3 : ∀ f i P, pItems t f i P ≠ .error 9 := fun f => by
    induction f with
    | zero => intro i P h; simp [pItems] at h
    | succ f ih =>
      intro i P h
      unfold pItems at h
      split at h
      · rename_i e he; injection h with h; subst h; exact h2 _ he
      · simp only at h
        split at h
        · simp at h
        · exact ih _ _ h
  have h4 : ∀ b (R : Except Nat ((Nat → Bool) × Nat)), R ≠ .error 9 → clsOf b R ≠ .error 9 := fun b R hR h => by
    cases R with
    | error e => exact hR (by simp only [clsOf] at h; injection h with h; rw [h])
    | ok p => obtain ⟨P, k⟩ := p; simp [clsOf] at h
  unfold pClass
  split
  · exact h4 _ _ (h3 _ _ _)
  · exact h4 _ _ (h3 _ _ _)
end Rx
end Go.Proofs.YtmlmnckhiianhaaDoor
