/- What the laws' patterns mean: rows, bars, times. -/
import Derived.Test.YtmlmnckhiianhaaDoorRxO
import Derived.Test.YtmlmnckhiianhaaDoorRxT
namespace Go.Proofs.YtmlmnckhiianhaaDoor
namespace Rx

/-- A reader that says of a level less the same, or that it is too deep. -/
def Less (f g : Nat → Except Nat (Rx × Nat)) : Prop := ∀ i x j, f i = .ok (x, j) → g i = .ok (x, j) ∨ g i = .error 9
theorem pPart_less {f g : Nat → Except Nat (Rx × Nat)} (hf : Less f g) (t : List Nat) : Less (pPart f t) (pPart g t) := fun i x j h => by
  unfold pPart at h ⊢
  split at h
  · cases h
  · rename_i c hc
    split at h
    · rename_i h40
      simp only [h40, if_true]
      split at h
      · cases h
      · rename_i y k hy
        rcases hf _ _ _ hy with e | e
        · rw [e]; exact .inl h
        · rw [e]; exact .inr rfl
    · rename_i h40
      simp only [if_neg h40]
      exact .inl h
theorem pTimes_less {f g : Nat → Except Nat (Rx × Nat)} (hf : Less f g) (t : List Nat) : Less (pTimes f t) (pTimes g t) := fun i x j h => by
  unfold pTimes at h ⊢
  split at h
  · cases h
  · rename_i y k hy
    rcases pPart_less hf t _ _ _ hy with e | e
    · rw [e]; exact .inl h
    · rw [e]; exact .inr rfl
theorem pParts_less {f g : Nat → Except Nat (Rx × Nat)} (hf : Less f g) (t : List Nat) : ∀ (k i : Nat) (l m : List Rx) (j : Nat), pParts f t k i l = .ok (m, j) → pParts g t k i l = .ok (m, j) ∨ pParts g t k i l = .error 9
  | 0, i, l, m, j, h => .inl h
  | k + 1, i, l, m, j, h => by
    unfold pParts at h ⊢
    split at h
    · rename_i hc
      simp only [if_pos hc]
      split at h
      · cases h
      · rename_i y n hy
        rcases pTimes_less hf t _ _ _ hy with e | e
        · rw [e]; exact pParts_less hf t k n _ m j h
        · rw [e]; exact .inr rfl
    · rename_i hc
      simp only [if_neg hc]
      exact .inl h
theorem pRow_less {f g : Nat → Except Nat (Rx × Nat)} (hf : Less f g) (t : List Nat) : Less (pRow f t) (pRow g t) := fun i x j h => by
  unfold pRow at h ⊢
  split at h
  · cases h
  · rename_i l k hl
    rcases pParts_less hf t _ _ _ _ _ hl with e | e
    · rw [e]; exact .inl h
    · rw [e]; exact .inr rfl
theorem pBars_less {f g : Nat → Except Nat (Rx × Nat)} (hf : Less f g) (t : List Nat) : ∀ (k i : Nat) (l m : List Rx) (j : Nat), pBars f t k i l = .ok (m, j) → pBars g t k i l = .ok (m, j) ∨ pBars g t k i l = .error 9
  | 0, i, l, m, j, h => .inl h
  | k + 1, i, l, m, j, h => by
    unfold pBars at h ⊢
    split at h
    · rename_i hc
      simp only [if_pos hc]
      split at h
      · cases h
      · rename_i y n hy
        rcases pRow_less hf t _ _ _ hy with e | e
        · rw [e]; exact pBars_less hf t k n _ m j h
        · rw [e]; exact .inr rfl
    · rename_i hc
      simp only [if_neg hc]
      exact .inl h
theorem pPat_less (t : List Nat) : ∀ n, Less (pPat t (n + 1)) (pPat t n)
  | 0 => fun i x j h => .inr rfl
  | n + 1 => fun i x j h => by
    have ih := pPat_less t n
    unfold pPat at h ⊢
    split at h
    · cases h
    · rename_i y k hy
      split at h
      · cases h
      · rename_i l m hl
        rcases pRow_less ih t _ _ _ hy with e | e
        · rw [e]
          rcases pBars_less ih t _ _ _ _ _ hl with e2 | e2
          · simp only [e2]; exact .inl h
          · simp only [e2]; exact .inr trivial
        · rw [e]; exact .inr rfl

/-- t lies in T, o places in; behind it stands what ends a pattern. -/
structure Within (t T : List Nat) (o : Nat) : Prop where
  get : ∀ i c, t[i]? = some c → T[o + i]? = some c
  none : T[o + t.length]? = some 41
theorem Within.len {t T : List Nat} {o : Nat} (h : Within t T o) : o + t.length < T.length := get_lt h.none
theorem Within.eq {t T : List Nat} {o i c : Nat} (h : Within t T o) (hi : i ≤ t.length) (hc : c ≠ 41) : (T[o + i]? = some c) = (t[i]? = some c) := by
  by_cases hlt : i < t.length
  · rw [h.get i _ (List.getElem?_eq_getElem hlt), List.getElem?_eq_getElem hlt]
  · have : i = t.length := by omega
    subst this
    rw [h.none, List.getElem?_eq_none (Nat.le_refl _)]
    simp
    omega
theorem Within.lt {t T : List Nat} {o i : Nat} (h : Within t T o) (hi : i < t.length) : T[o + i]? = t[i]? := by
  rw [h.get i _ (List.getElem?_eq_getElem hi), List.getElem?_eq_getElem hi]

theorem pOne_eq (t : List Nat) (i : Nat) : pOne t i = if t[i]? = some 92 then (match t[i + 1]? with | none => .error 27 | some c => .ok (c, i + 2)) else (match t[i]? with | none => .error 27 | some c => .ok (c, i + 1)) := by
  unfold pOne
  by_cases h : t[i]? = some 92
  · simp only [h, if_true]; cases t[i + 1]? <;> rfl
  · simp only [h, if_false]; cases t[i]? <;> rfl
theorem pOne_with {t T : List Nat} {o i c j : Nat} (h : Within t T o) (hi : i ≤ t.length) (hp : pOne t i = .ok (c, j)) : pOne T (o + i) = .ok (c, o + j) := by
  rw [pOne_eq] at hp ⊢
  simp only [h.eq hi (show (92 : Nat) ≠ 41 by decide)]
  by_cases h92 : t[i]? = some 92
  · rw [if_pos h92] at hp ⊢
    split at hp
    · cases hp
    · rename_i d hd
      injection hp with hp
      injection hp with e1 e2
      subst e1 e2
      rw [show o + i + 1 = o + (i + 1) by omega, h.get _ _ hd]
      rfl
  · rw [if_neg h92] at hp ⊢
    split at hp
    · cases hp
    · rename_i d hd
      injection hp with hp
      injection hp with e1 e2
      subst e1 e2
      rw [h.get _ _ hd]
      rfl
theorem pItem_with {t T : List Nat} {o i j : Nat} {p : Nat × Nat} (h : Within t T o) (hi : i ≤ t.length) (hp : pItem t i = .ok (p, j)) : pItem T (o + i) = .ok (p, o + j) := by
  unfold pItem at hp ⊢
  split at hp
  · cases hp
  · rename_i low k hk
    have hk2 := pOne_in hk
    rw [pOne_with h hi hk]
    simp only [h.eq hk2 (show (45 : Nat) ≠ 41 by decide)]
    split at hp
    · rename_i h45
      simp only [h45, if_true]
      split at hp
      · cases hp
      · rename_i high m hm
        rw [show o + k + 1 = o + (k + 1) by omega, pOne_with h (by have := get_lt h45; omega) hm]
        simp only
        split at hp
        · cases hp
        · rename_i hhl
          rw [if_neg hhl]
          injection hp with hp
          injection hp with e1 e2
          rw [e1, e2]
    · rename_i h45
      simp only [h45, if_false]
      injection hp with hp
      injection hp with e1 e2
      rw [e1, e2]
theorem pItems_with {t T : List Nat} {o : Nat} (h : Within t T o) : ∀ (f F i : Nat) (P : Nat → Bool) {j : Nat} {Q : Nat → Bool}, f ≤ F → i ≤ t.length → pItems t f i P = .ok (Q, j) → pItems T F (o + i) P = .ok (Q, o + j)
  | 0, _, _, _, _, _, _, _, hp => by cases hp
  | f + 1, 0, i, P, j, Q, hF, hi, hp => by omega
  | f + 1, F + 1, i, P, j, Q, hF, hi, hp => by
    unfold pItems at hp ⊢
    split at hp
    · cases hp
    · rename_i low high k hk
      rw [pItem_with h hi hk]
      have hk2 := pItem_in hk
      simp only at hp ⊢
      simp only [h.eq hk2 (show (93 : Nat) ≠ 41 by decide)]
      split at hp
      · rename_i h93
        simp only [h93, if_true]
        injection hp with hp
        injection hp with e1 e2
        rw [e1, ← e2]
        rfl
      · rename_i h93
        simp only [h93, if_false]
        exact pItems_with h f F k _ (by omega) hk2 hp
theorem clsOf_with {neg : Bool} {R S : Except Nat ((Nat → Bool) × Nat)} {x : Rx} {o j : Nat} (hr : ∀ P k, R = .ok (P, k) → S = .ok (P, o + k)) (h : clsOf neg R = .ok (x, j)) : clsOf neg S = .ok (x, o + j) := by
  cases R with
  | error e => cases h
  | ok p =>
    obtain ⟨P, k⟩ := p
    rw [hr P k rfl]
    simp only [clsOf] at h ⊢
    injection h with h
    injection h with h1 h2
    rw [h1, h2]
theorem pClass_with {t T : List Nat} {o i j : Nat} {x : Rx} (h : Within t T o) (hi : i ≤ t.length) (hp : pClass t i = .ok (x, j)) : pClass T (o + i) = .ok (x, o + j) := by
  have hlen := h.len
  unfold pClass at hp ⊢
  simp only [h.eq hi (show (94 : Nat) ≠ 41 by decide)]
  split at hp
  · rename_i h94
    simp only [h94, if_true]
    rw [show o + i + 1 = o + (i + 1) by omega]
    exact clsOf_with (fun P k hk => pItems_with h _ _ _ _ (by omega) (by have := get_lt h94; omega) hk) hp
  · rename_i h94
    simp only [h94, if_false]
    exact clsOf_with (fun P k hk => pItems_with h _ _ _ _ (by omega) hi hk) hp

/-- What is read there, is read here. -/
def Same (t : List Nat) (o : Nat) (f F : Nat → Except Nat (Rx × Nat)) : Prop := ∀ i, i ≤ t.length → (∀ x j, f i = .ok (x, j) → F (o + i) = .ok (x, o + j)) ∧ (f i = .error 9 → F (o + i) = .error 9)
theorem pClass_err {t : List Nat} {i : Nat} : pClass t i ≠ .error 9 := by
  have h1 : ∀ i, pOne t i ≠ .error 9 := fun i h => by
    unfold pOne at h; simp only at h; split at h <;> simp at h
  have h2 : ∀ i, pItem t i ≠ .error 9 := fun i h => by
    unfold pItem at h
    split at h
    · rename_i e he; injection h with h; subst h; exact h1 _ he
    · split at h
      · split at h
        · rename_i e he; injection h with h; subst h; exact h1 _ he
        · split at h <;> simp at h
      · simp at h
  have h3 : ∀ f i P, pItems t f i P ≠ .error 9 := fun f => by
    induction f with
    | zero => intro i P h; simp [pItems] at h
    | succ f ih =>
      intro i P h
      unfold pItems at h
      split at h
      · rename_i e he; injection h with h; subst h; exact h2 _ he
      · simp only at h
        split at h
        · simp at h
        · exact ih _ _ h
  have h4 : ∀ b (R : Except Nat ((Nat → Bool) × Nat)), R ≠ .error 9 → clsOf b R ≠ .error 9 := fun b R hR h => by
    cases R with
    | error e => exact hR (by simp only [clsOf] at h; injection h with h; rw [h])
    | ok p => obtain ⟨P, k⟩ := p; simp [clsOf] at h
  unfold pClass
  split
  · exact h4 _ _ (h3 _ _ _)
  · exact h4 _ _ (h3 _ _ _)
end Rx
end Go.Proofs.YtmlmnckhiianhaaDoor

namespace Go.Proofs.YtmlmnckhiianhaaDoor
set_option linter.unusedVariables false
namespace Rx

/-- One answer is another's, o places on. -/
def Moved {α : Type} (o : Nat) (R S : Except Nat (α × Nat)) : Prop := (∀ x j, R = .ok (x, j) → S = .ok (x, o + j)) ∧ (R = .error 9 → S = .error 9)
theorem Moved.ok {α : Type} {o : Nat} {x : α} {j k : Nat} (h : k = o + j) : Moved o (.ok (x, j)) (.ok (x, k)) := by
  subst h
  exact ⟨fun y n e => (by injection e with e; injection e with e1 e2; rw [e1, e2]), fun e => (by cases e)⟩
theorem Moved.bad {α : Type} {o : Nat} {S : Except Nat (α × Nat)} {e : Nat} (h : e ≠ 9) : Moved o (.error e) S :=
  ⟨fun y n k => (by cases k), fun k => (by injection k with k; exact absurd k h)⟩
theorem pPart_with {t T : List Nat} {o : Nat} (h : Within t T o) {f F : Nat → Except Nat (Rx × Nat)} (hf : ∀ i, i ≤ t.length → Moved o (f i) (F (o + i))) (hk : Keeps t f) {i : Nat} (hi : i ≤ t.length) : Moved o (pPart f t i) (pPart F T (o + i)) := by
  cases hc : t[i]? with
  | none => unfold pPart; rw [hc]; exact Moved.bad (by decide)
  | some c =>
    have hlt := get_lt hc
    have hc2 := h.get _ _ hc
    unfold pPart
    rw [hc, hc2]
    simp only
    by_cases h40 : c = 40
    · simp only [if_pos h40]
      rw [show o + i + 1 = o + (i + 1) by omega]
      obtain ⟨h1, h2⟩ := hf (i + 1) (by omega)
      cases hr : f (i + 1) with
      | error e =>
        by_cases he : e = 9
        · subst he
          rw [h2 hr]
          exact ⟨fun x j e => (by cases e), fun _ => rfl⟩
        · exact Moved.bad he
      | ok p =>
        obtain ⟨x, j⟩ := p
        rw [h1 x j hr]
        simp only
        by_cases h41 : t[j]? = some 41
        · rw [if_pos h41, if_pos (h.get _ _ h41)]
          exact Moved.ok (by omega)
        · rw [if_neg h41]
          exact Moved.bad (by decide)
    · simp only [if_neg h40]
      by_cases h91 : c = 91
      · simp only [if_pos h91]
        rw [show o + i + 1 = o + (i + 1) by omega]
        exact ⟨fun x j e => pClass_with h (by omega) e, fun e => absurd e pClass_err⟩
      · simp only [if_neg h91]
        split
        · exact Moved.bad (by decide)
        · split
          · exact Moved.ok (by omega)
          · split
            · cases hd : t[i + 1]? with
              | none => exact Moved.bad (by decide)
              | some d =>
                rw [show o + i + 1 = o + (i + 1) by omega, h.get _ _ hd]
                exact Moved.ok (by omega)
            · exact Moved.ok (by omega)
theorem sign_with {t T : List Nat} {o i : Nat} (h : Within t T o) (hi : i ≤ t.length) (x : Rx) : sign T[o + i]? x = sign t[i]? x := by
  unfold sign
  simp only [h.eq hi (show (42 : Nat) ≠ 41 by decide), h.eq hi (show (43 : Nat) ≠ 41 by decide), h.eq hi (show (63 : Nat) ≠ 41 by decide)]
theorem pSigns_with {t T : List Nat} {o : Nat} (h : Within t T o) : ∀ (f F i : Nat) (x : Rx), t.length < i + f → f ≤ F → i ≤ t.length → pSigns T F (o + i) x = ((pSigns t f i x).1, o + (pSigns t f i x).2)
  | 0, F, i, x, h1, _, h2 => by omega
  | f + 1, 0, i, x, _, h1, _ => by omega
  | f + 1, F + 1, i, x, h1, h2, h3 => by
    unfold pSigns
    rw [sign_with h h3]
    cases hs : sign t[i]? x with
    | none => rfl
    | some y =>
      have hi : i < t.length := by
        cases hc : t[i]? with
        | none => rw [hc] at hs; simp [sign] at hs
        | some c => exact get_lt hc
      exact pSigns_with h f F (i + 1) y (by omega) (by omega) (by omega)
theorem pTimes_with {t T : List Nat} {o : Nat} (h : Within t T o) {f F : Nat → Except Nat (Rx × Nat)} (hf : ∀ i, i ≤ t.length → Moved o (f i) (F (o + i))) (hk : Keeps t f) {i : Nat} (hi : i ≤ t.length) : Moved o (pTimes f t i) (pTimes F T (o + i)) := by
  obtain ⟨h1, h2⟩ := pPart_with h hf hk hi
  have hlen := h.len
  unfold pTimes
  cases hr : pPart f t i with
  | error e =>
    by_cases he : e = 9
    · subst he
      rw [h2 hr]
      exact ⟨fun x j e => (by cases e), fun _ => rfl⟩
    · exact Moved.bad he
  | ok p =>
    obtain ⟨x, j⟩ := p
    rw [h1 x j hr]
    simp only
    rw [pSigns_with h (t.length + 1) (T.length + 1) j x (by omega) (by omega) (pPart_in hr)]
    exact Moved.ok rfl
theorem stop_with {t T : List Nat} {o i : Nat} (h : Within t T o) (hi : i ≤ t.length) : (o + i < T.length ∧ T[o + i]? ≠ some 124 ∧ T[o + i]? ≠ some 41) ↔ (i < t.length ∧ t[i]? ≠ some 124 ∧ t[i]? ≠ some 41) := by
  by_cases hlt : i < t.length
  · rw [h.lt hlt]
    have := h.len
    constructor
    · rintro ⟨_, h2⟩; exact ⟨hlt, h2⟩
    · rintro ⟨_, h2⟩; exact ⟨by omega, h2⟩
  · have : i = t.length := by omega
    subst this
    constructor
    · rintro ⟨_, _, h3⟩; exact absurd h.none h3
    · rintro ⟨h1, _⟩; omega
theorem pParts_with {t T : List Nat} {o : Nat} (h : Within t T o) {f F : Nat → Except Nat (Rx × Nat)} (hf : ∀ i, i ≤ t.length → Moved o (f i) (F (o + i))) (hk : Keeps t f) (hg : Good f) : ∀ (k K i : Nat) (l : List Rx), t.length < i + k → k ≤ K → i ≤ t.length → Moved o (pParts f t k i l) (pParts F T K (o + i) l)
  | 0, K, i, l, h1, _, h2 => by omega
  | k + 1, 0, i, l, _, h1, _ => by omega
  | k + 1, K + 1, i, l, h1, h2, h3 => by
    unfold pParts
    by_cases hc : i < t.length ∧ t[i]? ≠ some 124 ∧ t[i]? ≠ some 41
    · rw [if_pos hc, if_pos ((stop_with h h3).2 hc)]
      obtain ⟨m1, m2⟩ := pTimes_with h hf hk h3
      cases hr : pTimes f t i with
      | error e =>
        by_cases he : e = 9
        · subst he
          rw [m2 hr]
          exact ⟨fun x j e => (by cases e), fun _ => rfl⟩
        · exact Moved.bad he
      | ok p =>
        obtain ⟨x, j⟩ := p
        rw [m1 x j hr]
        have := pTimes_adv hg hr
        exact pParts_with h hf hk hg k K j _ (by omega) (by omega) (pTimes_in hr)
    · rw [if_neg hc, if_neg (fun e => hc ((stop_with h h3).1 e))]
      exact Moved.ok rfl
theorem pRow_with {t T : List Nat} {o : Nat} (h : Within t T o) {f F : Nat → Except Nat (Rx × Nat)} (hf : ∀ i, i ≤ t.length → Moved o (f i) (F (o + i))) (hk : Keeps t f) (hg : Good f) {i : Nat} (hi : i ≤ t.length) : Moved o (pRow f t i) (pRow F T (o + i)) := by
  have hlen := h.len
  obtain ⟨m1, m2⟩ := pParts_with h hf hk hg (t.length + 1) (T.length + 1) i [] (by omega) (by omega) hi
  unfold pRow
  cases hr : pParts f t (t.length + 1) i [] with
  | error e =>
    by_cases he : e = 9
    · subst he
      rw [m2 hr]
      exact ⟨fun x j e => (by cases e), fun _ => rfl⟩
    · exact Moved.bad he
  | ok p =>
    obtain ⟨x, j⟩ := p
    rw [m1 x j hr]
    exact Moved.ok rfl
theorem pBars_with {t T : List Nat} {o : Nat} (h : Within t T o) {f F : Nat → Except Nat (Rx × Nat)} (hf : ∀ i, i ≤ t.length → Moved o (f i) (F (o + i))) (hk : Keeps t f) (hg : Good f) : ∀ (k K i : Nat) (l : List Rx), t.length < i + k → k ≤ K → i ≤ t.length → Moved o (pBars f t k i l) (pBars F T K (o + i) l)
  | 0, K, i, l, h1, _, h2 => by omega
  | k + 1, 0, i, l, _, h1, _ => by omega
  | k + 1, K + 1, i, l, h1, h2, h3 => by
    unfold pBars
    simp only [h.eq h3 (show (124 : Nat) ≠ 41 by decide)]
    by_cases hc : t[i]? = some 124
    · rw [if_pos hc, if_pos hc]
      have hlt := get_lt hc
      rw [show o + i + 1 = o + (i + 1) by omega]
      obtain ⟨m1, m2⟩ := pRow_with h hf hk hg (show i + 1 ≤ t.length by omega)
      cases hr : pRow f t (i + 1) with
      | error e =>
        by_cases he : e = 9
        · subst he
          rw [m2 hr]
          exact ⟨fun x j e => (by cases e), fun _ => rfl⟩
        · exact Moved.bad he
      | ok p =>
        obtain ⟨x, j⟩ := p
        rw [m1 x j hr]
        have := (pRow_adv hg hr).1
        exact pBars_with h hf hk hg k K j _ (by omega) (by omega) (pRow_in (by omega) hr)
    · rw [if_neg hc, if_neg hc]
      exact Moved.ok rfl
theorem pPat_with {t T : List Nat} {o : Nat} (h : Within t T o) : ∀ (n i : Nat), i ≤ t.length → Moved o (pPat t n i) (pPat T n (o + i))
  | 0, i, hi => ⟨fun x j e => (by cases e), fun _ => rfl⟩
  | n + 1, i, hi => by
    have hlen := h.len
    have ih := pPat_with h n
    obtain ⟨m1, m2⟩ := pRow_with h ih (pPat_in t n) (pPat_good t n) hi
    unfold pPat
    cases hr : pRow (pPat t n) t i with
    | error e =>
      by_cases he : e = 9
      · subst he
        rw [m2 hr]
        exact ⟨fun x j e => (by cases e), fun _ => rfl⟩
      · exact Moved.bad he
    | ok p =>
      obtain ⟨x, j⟩ := p
      rw [m1 x j hr]
      simp only
      obtain ⟨b1, b2⟩ := pBars_with h ih (pPat_in t n) (pPat_good t n) (t.length + 1) (T.length + 1) j [x] (by omega) (by omega) (pRow_in hi hr)
      cases hb : pBars (pPat t n) t (t.length + 1) j [x] with
      | error e =>
        by_cases he : e = 9
        · subst he
          rw [b2 hb]
          exact ⟨fun x j e => (by cases e), fun _ => rfl⟩
        · exact Moved.bad he
      | ok q =>
        obtain ⟨l, k⟩ := q
        rw [b1 l k hb]
        exact Moved.ok rfl

/-- A pattern in brackets, as a part: what it is by itself, if it isn't too deep there. -/
theorem pPart_bracket {p T : List Nat} {o : Nat} {x : Rx} (hp : parse p = .ok x) (h : Within p T (o + 1)) (h0 : T[o]? = some 40) :
    (pPat p 7 0 = .ok (x, p.length) ∧ pPart (pPat T 7) T o = .ok (x, o + p.length + 2)) ∨ (pPat p 7 0 = .error 9 ∧ pPart (pPat T 7) T o = .error 9) := by
  obtain ⟨hl, h8⟩ := parse_ok hp
  obtain ⟨m1, m2⟩ := pPat_with h 7 0 (Nat.zero_le _)
  have hn := h.none
  rcases pPat_less p 7 _ _ _ h8 with e | e
  · refine .inl ⟨e, ?_⟩
    have h2 := m1 _ _ e
    unfold pPart
    rw [h0]
    simp only [if_true]
    rw [Nat.add_zero] at h2
    rw [h2]
    simp only
    rw [if_pos hn]
    congr 2
    omega
  · refine .inr ⟨e, ?_⟩
    have h2 := m2 e
    unfold pPart
    rw [h0]
    simp only [if_true]
    rw [Nat.add_zero] at h2
    rw [h2]
end Rx
end Go.Proofs.YtmlmnckhiianhaaDoor

namespace Go.Proofs.YtmlmnckhiianhaaDoor
set_option linter.unusedVariables false
namespace Rx

/-- No sign of times. -/
def NoSign (c : Option Nat) : Prop := c ≠ some 42 ∧ c ≠ some 43 ∧ c ≠ some 63
theorem sign_none {c : Option Nat} (h : NoSign c) (x : Rx) : sign c x = none := by
  unfold sign
  rw [if_neg h.1, if_neg h.2.1, if_neg h.2.2]
theorem times_plain {f : Nat → Except Nat (Rx × Nat)} {t : List Nat} {i j : Nat} {x : Rx} (hp : pPart f t i = .ok (x, j)) (hs : NoSign t[j]?) : pTimes f t i = .ok (x, j) := by
  unfold pTimes
  rw [hp]
  simp only
  unfold pSigns
  rw [sign_none hs]
theorem times_sign {f : Nat → Except Nat (Rx × Nat)} {t : List Nat} {i j : Nat} {x y : Rx} (hp : pPart f t i = .ok (x, j)) (h0 : 0 < t.length) (hy : sign t[j]? x = some y) (hs : NoSign t[j + 1]?) : pTimes f t i = .ok (y, j + 1) := by
  unfold pTimes
  rw [hp]
  obtain ⟨n, hn⟩ : ∃ n, t.length = n + 1 := ⟨t.length - 1, by omega⟩
  simp only [hn]
  unfold pSigns
  rw [hy]
  simp only
  unfold pSigns
  rw [sign_none hs]
theorem times_err {f : Nat → Except Nat (Rx × Nat)} {t : List Nat} {i : Nat} (hp : pPart f t i = .error 9) : pTimes f t i = .error 9 := by
  unfold pTimes
  rw [hp]
theorem parts_step {f : Nat → Except Nat (Rx × Nat)} {t : List Nat} {i j k : Nat} {x : Rx} {l : List Rx} (hi : i < t.length) (h1 : t[i]? ≠ some 124) (h2 : t[i]? ≠ some 41) (hp : pTimes f t i = .ok (x, j)) : pParts f t (k + 1) i l = pParts f t k j (l ++ [x]) := by
  conv => lhs; unfold pParts
  rw [if_pos ⟨hi, h1, h2⟩, hp]
theorem parts_stop {f : Nat → Except Nat (Rx × Nat)} {t : List Nat} {i k : Nat} {l : List Rx} (h : ¬ (i < t.length ∧ t[i]? ≠ some 124 ∧ t[i]? ≠ some 41)) : pParts f t k i l = .ok (l, i) := by
  cases k with
  | zero => rfl
  | succ k => unfold pParts; rw [if_neg h]
theorem row_err {f : Nat → Except Nat (Rx × Nat)} {t : List Nat} {i : Nat} (hi : i < t.length) (h1 : t[i]? ≠ some 124) (h2 : t[i]? ≠ some 41) (hp : pTimes f t i = .error 9) : pRow f t i = .error 9 := by
  unfold pRow pParts
  rw [if_pos ⟨hi, h1, h2⟩, hp]
/-- A text that is one row. -/
theorem parse_row {t : List Nat} {l : List Rx} (ht : t.length ≤ 64) (hp : pParts (pPat t 7) t (t.length + 1) 0 [] = .ok (l, t.length)) : parse t = .ok (.either [.row l]) := by
  refine ok_parse ht ?_
  have hR : pRow (pPat t 7) t 0 = .ok (.row l, t.length) := by
    unfold pRow
    rw [hp]
  have hB : pBars (pPat t 7) t (t.length + 1) t.length [.row l] = .ok ([.row l], t.length) := by
    unfold pBars
    rw [if_neg (by simp)]
  unfold pPat
  rw [hR]
  simp only [hB]
/-- A text that is two rows. -/
theorem parse_two {t : List Nat} {l m : List Rx} {j : Nat} (ht : t.length ≤ 64) (h0 : 0 < t.length) (hp : pParts (pPat t 7) t (t.length + 1) 0 [] = .ok (l, j)) (hj : t[j]? = some 124) (hq : pParts (pPat t 7) t (t.length + 1) (j + 1) [] = .ok (m, t.length)) : parse t = .ok (.either [.row l, .row m]) := by
  refine ok_parse ht ?_
  obtain ⟨n, hn⟩ : ∃ n, t.length = n + 1 := ⟨t.length - 1, by omega⟩
  have hR : pRow (pPat t 7) t 0 = .ok (.row l, j) := by
    unfold pRow
    rw [hp]
  have hR2 : pRow (pPat t 7) t (j + 1) = .ok (.row m, t.length) := by
    unfold pRow
    rw [hq]
  have hE : pBars (pPat t 7) t t.length t.length [.row l, .row m] = .ok ([.row l, .row m], t.length) := by
    rw [hn]
    unfold pBars
    rw [if_neg (by rw [← hn]; simp)]
  have hB : pBars (pPat t 7) t (t.length + 1) j [.row l] = .ok ([.row l, .row m], t.length) := by
    conv => lhs; unfold pBars
    rw [if_pos hj, hR2]
    exact hE
  unfold pPat
  rw [hR]
  simp only [hB]
theorem parse_err {t : List Nat} (ht : t.length ≤ 64) (hp : pRow (pPat t 7) t 0 = .error 9) : parse t = .error 9 := by
  unfold parse
  rw [if_neg (by omega)]
  have : pPat t 8 0 = .error 9 := by
    unfold pPat
    rw [hp]
  rw [this]

/-- A pattern that isn't too deep for brackets. -/
def Flat (p : List Nat) (x : Rx) : Prop := pPat p 7 0 = .ok (x, p.length)
/-- A text in brackets. -/
def br (p : List Nat) : List Nat := 40 :: (p ++ [41])
theorem br_len (p : List Nat) : (br p).length = p.length + 2 := by simp [br]
theorem br_within (a p b : List Nat) : Within p (a ++ (br p ++ b)) (a.length + 1) ∧ (a ++ (br p ++ b))[a.length]? = some 40 := by
  refine ⟨⟨fun i c hc => ?_, ?_⟩, ?_⟩
  · have hi := get_lt hc
    rw [List.getElem?_append_right (by omega), show a.length + 1 + i - a.length = i + 1 by omega]
    simp only [br, List.cons_append, List.getElem?_cons_succ]
    rw [List.append_assoc, List.getElem?_append_left hi, hc]
  · rw [List.getElem?_append_right (by omega), show a.length + 1 + p.length - a.length = p.length + 1 by omega]
    simp only [br, List.cons_append, List.getElem?_cons_succ]
    rw [List.append_assoc, List.getElem?_append_right (by omega)]
    simp
  · rw [List.getElem?_append_right (by omega)]
    simp [br]
theorem br_part {p : List Nat} {x : Rx} (hp : parse p = .ok x) (hf : Flat p x) (a b : List Nat) : pPart (pPat (a ++ (br p ++ b)) 7) (a ++ (br p ++ b)) a.length = .ok (x, a.length + p.length + 2) := by
  obtain ⟨h1, h2⟩ := br_within a p b
  rcases pPart_bracket hp h1 h2 with ⟨_, h⟩ | ⟨h, _⟩
  · exact h
  · unfold Flat at hf
    rw [h] at hf
    cases hf
/-- A pattern in brackets is one just if it isn't too deep. -/
theorem parse_br {p : List Nat} {x : Rx} (hp : parse p = .ok x) (hl : p.length ≤ 62) : (Flat p x ∧ parse (br p) = .ok (.either [.row [x]])) ∨ parse (br p) = .error 9 := by
  have hh := br_within [] p []
  simp only [List.nil_append, List.append_nil, List.length_nil] at hh
  obtain ⟨h1, h2⟩ := hh
  have hn := br_len p
  rcases pPart_bracket hp h1 h2 with ⟨hf, h⟩ | ⟨_, h⟩
  · refine .inl ⟨hf, parse_row (by omega) ?_⟩
    rw [parts_step (by omega) (by rw [h2]; simp) (by rw [h2]; simp) (times_plain h (by rw [List.getElem?_eq_none (by omega)]; simp [NoSign]))]
    rw [parts_stop (by omega)]
    simp only [List.nil_append]
    congr 2
    omega
  · exact .inr (parse_err (by omega) (row_err (by omega) (by rw [h2]; simp) (by rw [h2]; simp) (times_err h)))
/-- Two patterns in brackets, one behind the other. -/
theorem parse_brs {p q : List Nat} {x y : Rx} (hp : parse p = .ok x) (hq : parse q = .ok y) (hl : p.length + q.length ≤ 60) (hf : Flat p x) (hg : Flat q y) : parse (br p ++ br q) = .ok (.either [.row [x, y]]) := by
  have a1 := br_part hp hf [] (br q)
  have a2 := br_part hq hg (br p) []
  have b1 := (br_within [] p (br q)).2
  have b2 := (br_within (br p) q []).2
  simp only [List.nil_append, List.append_nil, List.length_nil] at a1 a2 b1 b2
  have hn := br_len p
  have hm := br_len q
  have hT : (br p ++ br q).length = p.length + q.length + 4 := by simp [hn, hm]; omega
  refine parse_row (by omega) ?_
  rw [hn] at a2 b2
  rw [parts_step (by omega) (by rw [b1]; simp) (by rw [b1]; simp) (times_plain a1 (by rw [show 0 + p.length + 2 = p.length + 2 by omega, b2]; simp [NoSign]))]
  rw [show (br p ++ br q).length = (p.length + q.length + 3) + 1 by omega]
  rw [show 0 + p.length + 2 = p.length + 2 by omega]
  rw [parts_step (by omega) (by rw [b2]; simp) (by rw [b2]; simp) (times_plain a2 (by rw [List.getElem?_eq_none (by omega)]; simp [NoSign]))]
  rw [parts_stop (by omega)]
  simp only [List.nil_append, List.cons_append]
  congr 2
  omega
/-- Two patterns in brackets, of which any may come. -/
theorem parse_ors {p q : List Nat} {x y : Rx} (hp : parse p = .ok x) (hq : parse q = .ok y) (hl : p.length + q.length ≤ 59) (hf : Flat p x) (hg : Flat q y) : parse (br p ++ (124 :: br q)) = .ok (.either [.row [x], .row [y]]) := by
  have a1 := br_part hp hf [] (124 :: br q)
  have a2 := br_part hq hg (br p ++ [124]) []
  have b1 := (br_within [] p (124 :: br q)).2
  have b2 := (br_within (br p ++ [124]) q []).2
  have hn := br_len p
  have hm := br_len q
  simp only [List.nil_append, List.append_nil, List.length_nil, List.append_assoc, List.cons_append, List.length_append, List.length_cons] at a1 a2 b1 b2
  have hT : (br p ++ (124 :: br q)).length = p.length + q.length + 5 := by simp [hn, hm]; omega
  have hbar : (br p ++ (124 :: br q))[p.length + 2]? = some 124 := by
    rw [List.getElem?_append_right (by omega), hn]
    simp
  rw [hn] at a2 b2
  simp only [Nat.zero_add] at a1 a2 b2
  refine parse_two (j := p.length + 2) (by omega) (by omega) ?_ hbar ?_
  · rw [parts_step (by omega) (by rw [b1]; simp) (by rw [b1]; simp) (times_plain a1 (by rw [hbar]; simp [NoSign]))]
    rw [parts_stop (by rw [hbar]; simp)]
    rfl
  · rw [parts_step (by omega) (by rw [b2]; simp) (by rw [b2]; simp) (times_plain a2 (by rw [List.getElem?_eq_none (by omega)]; simp [NoSign]))]
    rw [parts_stop (by omega)]
    simp only [List.nil_append]
    congr 2
    omega
end Rx
end Go.Proofs.YtmlmnckhiianhaaDoor

namespace Go.Proofs.YtmlmnckhiianhaaDoor
set_option linter.unusedVariables false
namespace Rx

/-- A pattern in brackets with a sign behind it. -/
theorem parse_signed {p : List Nat} {x y : Rx} {c : Nat} (hp : parse p = .ok x) (hl : p.length ≤ 61) (hf : Flat p x) (hc : c ≠ 124 ∧ c ≠ 41) (hy : sign (some c) x = some y) : parse (br p ++ [c]) = .ok (.either [.row [y]]) := by
  have a1 := br_part hp hf [] [c]
  have b1 := (br_within [] p [c]).2
  have hn := br_len p
  simp only [List.nil_append, List.length_nil] at a1 b1
  have hT : (br p ++ [c]).length = p.length + 3 := by simp [hn]
  have hs : (br p ++ [c])[0 + p.length + 2]? = some c := by
    rw [List.getElem?_append_right (by omega), hn, show 0 + p.length + 2 - (p.length + 2) = 0 by omega]
    rfl
  refine parse_row (by omega) ?_
  rw [parts_step (by omega) (by rw [b1]; simp) (by rw [b1]; simp) (times_sign a1 (by omega) (by rw [hs]; exact hy) (by rw [List.getElem?_eq_none (by omega)]; simp [NoSign]))]
  rw [parts_stop (by omega)]
  simp only [List.nil_append]
  congr 2
  omega
/-- Twice a pattern in brackets, the second time with a sign behind it. -/
theorem parse_then {p q : List Nat} {x z y : Rx} {c : Nat} (hp : parse p = .ok x) (hq : parse q = .ok z) (hl : p.length + q.length ≤ 59) (hf : Flat p x) (hg : Flat q z) (hc : c ≠ 124 ∧ c ≠ 41) (hy : sign (some c) z = some y) : parse (br p ++ (br q ++ [c])) = .ok (.either [.row [x, y]]) := by
  have a1 := br_part hp hf [] (br q ++ [c])
  have a2 := br_part hq hg (br p) [c]
  have b1 := (br_within [] p (br q ++ [c])).2
  have b2 := (br_within (br p) q [c]).2
  simp only [List.nil_append, List.length_nil] at a1 b1
  have hn := br_len p
  have hm := br_len q
  have hT : (br p ++ (br q ++ [c])).length = p.length + q.length + 5 := by simp [hn, hm]; omega
  rw [hn] at a2 b2
  have hs : (br p ++ (br q ++ [c]))[p.length + 2 + q.length + 2]? = some c := by
    rw [List.getElem?_append_right (by omega), List.getElem?_append_right (by omega), hn, hm, show p.length + 2 + q.length + 2 - (p.length + 2) - (q.length + 2) = 0 by omega]
    rfl
  refine parse_row (by omega) ?_
  rw [parts_step (by omega) (by rw [b1]; simp) (by rw [b1]; simp) (times_plain a1 (by rw [show 0 + p.length + 2 = p.length + 2 by omega, b2]; simp [NoSign]))]
  rw [show (br p ++ (br q ++ [c])).length = (p.length + q.length + 4) + 1 by omega]
  rw [show 0 + p.length + 2 = p.length + 2 by omega]
  rw [parts_step (by omega) (by rw [b2]; simp) (by rw [b2]; simp) (times_sign a2 (by omega) (by rw [hs]; exact hy) (by rw [List.getElem?_eq_none (by omega)]; simp [NoSign]))]
  rw [parts_stop (by omega)]
  simp only [List.nil_append, List.cons_append]
  congr 2
  omega

theorem L_one (x : Rx) (u : List Nat) : L (.either [.row [x]]) u ↔ L x u := by
  simp only [L, LAny, LRow, or_false]
  constructor
  · rintro ⟨a, b, rfl, h, rfl⟩
    simpa using h
  · intro h
    exact ⟨u, [], by simp, h, rfl⟩
theorem L_seq (x y : Rx) (u : List Nat) : L (.either [.row [x, y]]) u ↔ ∃ a b, u = a ++ b ∧ L x a ∧ L y b := by
  simp only [L, LAny, LRow, or_false]
  constructor
  · rintro ⟨a, b, rfl, h, c, d, rfl, h2, rfl⟩
    exact ⟨a, c, by simp, h, h2⟩
  · rintro ⟨a, b, rfl, h, h2⟩
    exact ⟨a, b, rfl, h, b, [], by simp, h2, rfl⟩
theorem L_or (x y : Rx) (u : List Nat) : L (.either [.row [x], .row [y]]) u ↔ L x u ∨ L y u := by
  have h1 := L_one x u
  have h2 := L_one y u
  simp only [L, LAny, or_false] at h1 h2 ⊢
  rw [h1, h2]
theorem Star_iff (P : List Nat → Prop) (u : List Nat) : Star P u ↔ u = [] ∨ ∃ a b, u = a ++ b ∧ P a ∧ Star P b := by
  constructor
  · intro h
    cases h with
    | nil => exact .inl rfl
    | cons h1 h2 => exact .inr ⟨_, _, rfl, h1, h2⟩
  · rintro (rfl | ⟨a, b, rfl, h1, h2⟩)
    · exact .nil
    · exact .cons h1 h2
end Rx
open Rx
theorem mt_congr {x y : Rx} {u : List Nat} (h : L x u ↔ L y u) : mt x u = mt y u := by
  cases hy : mt y u with
  | true => exact mt_true (h.2 (mt_iff.1 hy))
  | false => exact mt_false (fun hx => by rw [mt_true (h.1 hx)] at hy; cases hy)
/-- RegexStars, plain: once or more is once and as often as one likes. -/
theorem mt_plus (x : Rx) (u : List Nat) : mt (.either [.row [.plus x]]) u = mt (.either [.row [x, .star x]]) u := by
  apply mt_congr
  rw [L_one, L_seq]
  simp only [L]
/-- As often as one likes is not at all, or once or more. -/
theorem mt_star (x : Rx) (u : List Nat) : mt (.either [.row [.star x]]) u = (decide (u = []) || mt (.either [.row [.plus x]]) u) := by
  have h : L (.either [.row [.star x]]) u ↔ u = [] ∨ L (.either [.row [.plus x]]) u := by
    rw [L_one, L_one]
    simp only [L]
    exact Star_iff _ _
  by_cases hu : u = []
  · rw [mt_true (h.2 (.inl hu))]; simp [hu]
  · simp only [hu, decide_false, Bool.false_or]
    exact mt_congr (h.trans ⟨fun e => e.resolve_left hu, .inr⟩)
/-- Perhaps is not at all, or once. -/
theorem mt_maybe (x : Rx) (u : List Nat) : mt (.either [.row [.maybe x]]) u = (decide (u = []) || mt (.either [.row [x]]) u) := by
  have h : L (.either [.row [.maybe x]]) u ↔ u = [] ∨ L (.either [.row [x]]) u := by
    rw [L_one, L_one]
    simp only [L]
  by_cases hu : u = []
  · rw [mt_true (h.2 (.inl hu))]; simp [hu]
  · simp only [hu, decide_false, Bool.false_or]
    exact mt_congr (h.trans ⟨fun e => e.resolve_left hu, .inr⟩)
theorem mt_or (x y : Rx) (u : List Nat) : mt (.either [.row [x], .row [y]]) u = (mt (.either [.row [x]]) u || mt (.either [.row [y]]) u) := by
  have h := L_or x y u
  rw [← L_one x, ← L_one y] at h
  cases hx : mt (.either [.row [x]]) u with
  | true => exact mt_true (h.2 (.inl (mt_iff.1 hx)))
  | false =>
    rw [Bool.false_or]
    exact mt_congr (h.trans ⟨fun e => e.resolve_left (fun e => by rw [mt_true e] at hx; cases hx), .inr⟩)
/-- Whether a text can be cut at a place below k. -/
noncomputable def cut (x y : Rx) (u : List Nat) : Nat → Bool
  | 0 => false
  | k + 1 => cut x y u k || (mt x (u.take k) && mt y (u.drop k))
theorem cut_iff (x y : Rx) (u : List Nat) : ∀ k, cut x y u k = true ↔ ∃ i, i < k ∧ L x (u.take i) ∧ L y (u.drop i)
  | 0 => by simp [cut]
  | k + 1 => by
    simp only [cut, Bool.or_eq_true, Bool.and_eq_true, cut_iff x y u k, mt_iff]
    constructor
    · rintro (⟨i, h1, h2⟩ | h)
      · exact ⟨i, by omega, h2⟩
      · exact ⟨k, by omega, h⟩
    · rintro ⟨i, h1, h2⟩
      by_cases e : i = k
      · subst e; exact .inr h2
      · exact .inl ⟨i, by omega, h2⟩
/-- A row of two patterns is all of a text just if that can be cut in two. -/
theorem mt_seq (x y : Rx) (u : List Nat) : mt (.either [.row [x, y]]) u = cut (.either [.row [x]]) (.either [.row [y]]) u (u.length + 1) := by
  have h : L (.either [.row [x, y]]) u ↔ cut (.either [.row [x]]) (.either [.row [y]]) u (u.length + 1) = true := by
    rw [L_seq, cut_iff]
    constructor
    · rintro ⟨a, b, rfl, h1, h2⟩
      refine ⟨a.length, by simp; omega, ?_, ?_⟩
      · rw [L_one]; simpa using h1
      · rw [L_one]; simpa using h2
    · rintro ⟨i, _, h1, h2⟩
      rw [L_one] at h1 h2
      exact ⟨_, _, (List.take_append_drop i u).symm, h1, h2⟩
  cases hc : cut (.either [.row [x]]) (.either [.row [y]]) u (u.length + 1) with
  | true => exact mt_true (h.2 hc)
  | false => exact mt_false (fun e => by rw [h.1 e] at hc; cases hc)
end Go.Proofs.YtmlmnckhiianhaaDoor
