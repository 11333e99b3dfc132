/- What is read lies within its text. -/
import Derived.Test.YtmlmnckhiianhaaDoorRxP
namespace Go.Proofs.YtmlmnckhiianhaaDoor
namespace Rx

theorem pOne_in {t : List Nat} {i c j : Nat} (h : pOne t i = .ok (c, j)) : j ≤ t.length := by
  unfold pOne at h
  simp only at h
  split at h
  · cases h
  · rename_i d hd
    have := (List.getElem?_eq_some_iff.1 hd).1
    injection h with h
    injection h with _ h2
    omega
theorem pItem_in {t : List Nat} {i j : Nat} {p : Nat × Nat} (h : pItem t i = .ok (p, j)) : j ≤ t.length := by
  unfold pItem at h
  split at h
  · cases h
  · rename_i low k hk
    have := pOne_in hk
    split at h
    · split at h
      · cases h
      · rename_i high m hm
        have := pOne_in hm
        split at h
        · cases h
        · injection h with h
          injection h with _ h2
          omega
    · injection h with h
      injection h with _ h2
      omega
theorem get_lt {t : List Nat} {j c : Nat} (h : t[j]? = some c) : j < t.length := (List.getElem?_eq_some_iff.1 h).1
theorem pItems_in {t : List Nat} : ∀ (f i : Nat) (P : Nat → Bool) {j : Nat} {Q : Nat → Bool}, pItems t f i P = .ok (Q, j) → j ≤ t.length
  | 0, _, _, _, _, h => by cases h
  | f + 1, i, P, j, Q, h => by
    unfold pItems at h
    split at h
    · cases h
    · rename_i low high k hk
      simp only at h
      split at h
      · rename_i hc
        have := get_lt hc
        injection h with h
        injection h with _ h2
        omega
      · exact pItems_in f k _ h
theorem pClass_in {t : List Nat} {i j : Nat} {x : Rx} (h : pClass t i = .ok (x, j)) : j ≤ t.length := by
  unfold pClass at h
  split at h
  · obtain ⟨P, Q, h1, rfl⟩ := clsOf_ok h
    exact pItems_in _ _ _ h1
  · obtain ⟨P, Q, h1, rfl⟩ := clsOf_ok h
    exact pItems_in _ _ _ h1

/-- A reader that stays within a text. -/
def Keeps (t : List Nat) (f : Nat → Except Nat (Rx × Nat)) : Prop := ∀ i x k, i ≤ t.length → f i = .ok (x, k) → k ≤ t.length

theorem pPart_in {f : Nat → Except Nat (Rx × Nat)} {t : List Nat} {i j : Nat} {x : Rx} (h : pPart f t i = .ok (x, j)) : j ≤ t.length := by
  unfold pPart at h
  split at h
  · cases h
  · rename_i c hc
    have hi := get_lt hc
    split at h
    · split at h
      · cases h
      · rename_i y k hy
        split at h
        · rename_i hk
          have := get_lt hk
          injection h with h
          injection h with e1 e2
          omega
        · cases h
    · split at h
      · exact pClass_in h
      · split at h
        · cases h
        · split at h
          · injection h with h
            injection h with e1 e2
            omega
          · split at h
            · split at h
              · cases h
              · rename_i d hd
                have := get_lt hd
                injection h with h
                injection h with e1 e2
                omega
            · injection h with h
              injection h with e1 e2
              omega
theorem pSigns_in {t : List Nat} : ∀ (f i : Nat) (x : Rx), i ≤ t.length → (pSigns t f i x).2 ≤ t.length
  | 0, i, x, h => by simpa [pSigns] using h
  | f + 1, i, x, h => by
    unfold pSigns
    split
    · rename_i y hy
      cases hc : t[i]? with
      | none => rw [hc] at hy; simp [sign] at hy
      | some c => exact pSigns_in f (i + 1) y (get_lt hc)
    · exact h
theorem pTimes_in {f : Nat → Except Nat (Rx × Nat)} {t : List Nat} {i j : Nat} {x : Rx} (h : pTimes f t i = .ok (x, j)) : j ≤ t.length := by
  unfold pTimes at h
  split at h
  · cases h
  · rename_i y k hy
    have h1 := pPart_in hy
    injection h with h
    have := pSigns_in (t := t) (t.length + 1) k y h1
    rw [h] at this
    exact this
theorem pParts_in {f : Nat → Except Nat (Rx × Nat)} {t : List Nat} : ∀ (k i : Nat) (l : List Rx) {j : Nat} {m : List Rx}, i ≤ t.length → pParts f t k i l = .ok (m, j) → j ≤ t.length
  | 0, i, l, j, m, hi, h => by
    simp only [pParts] at h
    injection h with h
    injection h with e1 e2
    omega
  | k + 1, i, l, j, m, hi, h => by
    unfold pParts at h
    split at h
    · split at h
      · cases h
      · rename_i y n hy
        exact pParts_in k n _ (pTimes_in hy) h
    · injection h with h
      injection h with e1 e2
      omega
theorem pRow_in {f : Nat → Except Nat (Rx × Nat)} {t : List Nat} {i j : Nat} {x : Rx} (hi : i ≤ t.length) (h : pRow f t i = .ok (x, j)) : j ≤ t.length := by
  unfold pRow at h
  split at h
  · cases h
  · rename_i l k hl
    have := pParts_in _ _ _ hi hl
    injection h with h
    injection h with e1 e2
    omega
theorem pBars_in {f : Nat → Except Nat (Rx × Nat)} {t : List Nat} : ∀ (k i : Nat) (l : List Rx) {j : Nat} {m : List Rx}, i ≤ t.length → pBars f t k i l = .ok (m, j) → j ≤ t.length
  | 0, i, l, j, m, hi, h => by
    simp only [pBars] at h
    injection h with h
    injection h with e1 e2
    omega
  | k + 1, i, l, j, m, hi, h => by
    unfold pBars at h
    split at h
    · rename_i hc
      have := get_lt hc
      split at h
      · cases h
      · rename_i y n hy
        exact pBars_in k n _ (pRow_in (by omega) hy) h
    · injection h with h
      injection h with e1 e2
      omega
theorem pPat_in (t : List Nat) : ∀ n, Keeps t (pPat t n)
  | 0 => fun i x k hi h => by cases h
  | n + 1 => fun i x k hi h => by
    unfold pPat at h
    split at h
    · cases h
    · rename_i y j hy
      split at h
      · cases h
      · rename_i l m hl
        have := pBars_in _ _ _ (pRow_in hi hy) hl
        injection h with h
        injection h with e1 e2
        omega
theorem parse_ok {t : List Nat} {x : Rx} (h : parse t = .ok x) : t.length ≤ 64 ∧ pPat t 8 0 = .ok (x, t.length) := by
  unfold parse at h
  split at h
  · cases h
  · split at h
    · cases h
    · rename_i y j hj
      have h1 := pPat_in t 8 _ _ _ (Nat.zero_le _) hj
      split at h
      · cases h
      · injection h with h
        subst h
        have : j = t.length := by omega
        subst this
        exact ⟨by omega, hj⟩
theorem ok_parse {t : List Nat} {x : Rx} (h1 : t.length ≤ 64) (h2 : pPat t 8 0 = .ok (x, t.length)) : parse t = .ok x := by
  unfold parse
  rw [if_neg (by omega), h2]
  simp only [Nat.lt_irrefl, if_false]
theorem parse_sz {t : List Nat} {x : Rx} (h : parse t = .ok x) : sz x ≤ 259 := by
  obtain ⟨h1, h2⟩ := parse_ok h
  have := (pPat_good t 8 _ _ _ h2).2
  omega
end Rx
end Go.Proofs.YtmlmnckhiianhaaDoor
