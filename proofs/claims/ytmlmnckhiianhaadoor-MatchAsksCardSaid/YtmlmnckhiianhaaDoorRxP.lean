/- What is read goes on from the left, and is no greater than its text. -/
import Derived.Test.YtmlmnckhiianhaaDoorRx
namespace Go.Proofs.YtmlmnckhiianhaaDoor
namespace Rx

mutual
/-- How many states a part wants. -/
def wt : Rx → Nat
  | .byte _ => 1
  | .row l => wts l
  | .either l => wts l + 1
  | .star r => wt r + 1
  | .plus r => wt r + 1
  | .maybe r => wt r + 1
def wts : List Rx → Nat
  | [] => 0
  | x :: l => wt x + wts l
end
theorem wts_append (a b : List Rx) : wts (a ++ b) = wts a + wts b := by
  induction a with
  | nil => simp [wts]
  | cons x l ih => simp [wts, ih]; omega

mutual
/-- How great a part is, lists counted. -/
def sz : Rx → Nat
  | .byte _ => 1
  | .row l => szs l + 1
  | .either l => szs l + 1
  | .star r => sz r + 1
  | .plus r => sz r + 1
  | .maybe r => sz r + 1
def szs : List Rx → Nat
  | [] => 0
  | x :: l => sz x + szs l + 1
end
theorem szs_append (a b : List Rx) : szs (a ++ b) = szs a + szs b := by
  induction a with
  | nil => simp [szs]
  | cons x l ih => simp [szs, ih]; omega
theorem szs_len : ∀ l : List Rx, l.length ≤ szs l
  | [] => by simp [szs]
  | x :: l => by have := szs_len l; simp [szs]; omega
mutual
theorem wt_sz : ∀ x : Rx, wt x ≤ sz x
  | .byte _ => by simp [wt, sz]
  | .row l => by have := wts_szs l; simp [wt, sz]; omega
  | .either l => by have := wts_szs l; simp [wt, sz]; omega
  | .star r => by have := wt_sz r; simp [wt, sz]; omega
  | .plus r => by have := wt_sz r; simp [wt, sz]; omega
  | .maybe r => by have := wt_sz r; simp [wt, sz]; omega
theorem wts_szs : ∀ l : List Rx, wts l ≤ szs l
  | [] => by simp [wts, szs]
  | x :: l => by have := wt_sz x; have := wts_szs l; simp [wts, szs]; omega
end
theorem szs_mem {x : Rx} : ∀ {l : List Rx}, x ∈ l → sz x ≤ szs l
  | y :: l, h => by
    simp only [szs]
    rcases List.mem_cons.1 h with rfl | h
    · omega
    · have := szs_mem h; omega

theorem pOne_adv {t : List Nat} {i c j : Nat} (h : pOne t i = .ok (c, j)) : i < j := by
  unfold pOne at h
  simp only at h
  split at h
  · cases h
  · injection h with h
    injection h with _ h2
    split at h2 <;> omega
theorem pItem_adv {t : List Nat} {i j : Nat} {p : Nat × Nat} (h : pItem t i = .ok (p, j)) : i < j := by
  unfold pItem at h
  split at h
  · cases h
  · rename_i low k hk
    have := pOne_adv hk
    split at h
    · split at h
      · cases h
      · rename_i high m hm
        have := pOne_adv hm
        split at h
        · cases h
        · injection h with h
          injection h with _ h2
          omega
    · injection h with h
      injection h with _ h2
      omega
theorem pItems_adv {t : List Nat} : ∀ (f i : Nat) (P : Nat → Bool) {j : Nat} {Q : Nat → Bool}, pItems t f i P = .ok (Q, j) → i < j
  | 0, _, _, _, _, h => by cases h
  | f + 1, i, P, j, Q, h => by
    unfold pItems at h
    split at h
    · cases h
    · rename_i low high k hk
      have := pItem_adv hk
      simp only at h
      split at h
      · injection h with h
        injection h with _ h2
        omega
      · have := pItems_adv f k _ h
        omega
theorem clsOf_ok {neg : Bool} {R : Except Nat ((Nat → Bool) × Nat)} {x : Rx} {j : Nat} (h : clsOf neg R = .ok (x, j)) : ∃ P Q, R = .ok (P, j) ∧ x = .byte Q := by
  cases R with
  | error e => cases h
  | ok p =>
    obtain ⟨P, k⟩ := p
    simp only [clsOf] at h
    injection h with h
    injection h with h1 h2
    exact ⟨P, _, by rw [h2], h1.symm⟩
theorem pClass_adv {t : List Nat} {i j : Nat} {x : Rx} (h : pClass t i = .ok (x, j)) : i < j ∧ sz x = 1 := by
  unfold pClass at h
  split at h
  · obtain ⟨P, Q, h1, rfl⟩ := clsOf_ok h
    have := pItems_adv _ _ _ h1
    exact ⟨by omega, by simp [sz]⟩
  · obtain ⟨P, Q, h1, rfl⟩ := clsOf_ok h
    have := pItems_adv _ _ _ h1
    exact ⟨by omega, by simp [sz]⟩

/-- A reader of patterns that goes on, and brings no more than it reads. -/
def Good (f : Nat → Except Nat (Rx × Nat)) : Prop := ∀ i x k, f i = .ok (x, k) → i ≤ k ∧ sz x ≤ 4 * (k - i) + 3

theorem pPart_adv {f : Nat → Except Nat (Rx × Nat)} (hf : Good f) {t : List Nat} {i j : Nat} {x : Rx} (h : pPart f t i = .ok (x, j)) : i < j ∧ sz x + 3 ≤ 4 * (j - i) := by
  unfold pPart at h
  split at h
  · cases h
  · rename_i c hc
    split at h
    · split at h
      · cases h
      · rename_i y k hy
        obtain ⟨h1, h2⟩ := hf _ _ _ hy
        split at h
        · injection h with h
          injection h with e1 e2
          subst e1 e2
          omega
        · cases h
    · split at h
      · obtain ⟨h1, h2⟩ := pClass_adv h
        omega
      · split at h
        · cases h
        · split at h
          · injection h with h
            injection h with e1 e2
            subst e1 e2
            simp [sz]
          · split at h
            · split at h
              · cases h
              · injection h with h
                injection h with e1 e2
                subst e1 e2
                simp [sz]
            · injection h with h
              injection h with e1 e2
              subst e1 e2
              simp [sz]
theorem sign_sz {c : Option Nat} {x y : Rx} (h : sign c x = some y) : sz y = sz x + 1 := by
  unfold sign at h
  split at h
  · injection h with h; subst h; simp [sz]
  · split at h
    · injection h with h; subst h; simp [sz]
    · split at h
      · injection h with h; subst h; simp [sz]
      · cases h
theorem pSigns_adv {t : List Nat} : ∀ (f i : Nat) (x : Rx), i ≤ (pSigns t f i x).2 ∧ sz (pSigns t f i x).1 ≤ sz x + ((pSigns t f i x).2 - i)
  | 0, i, x => by simp [pSigns]
  | f + 1, i, x => by
    unfold pSigns
    split
    · rename_i y hy
      have := pSigns_adv (t := t) f (i + 1) y
      have := sign_sz hy
      omega
    · simp
theorem pTimes_adv {f : Nat → Except Nat (Rx × Nat)} (hf : Good f) {t : List Nat} {i j : Nat} {x : Rx} (h : pTimes f t i = .ok (x, j)) : i < j ∧ sz x + 3 ≤ 4 * (j - i) := by
  unfold pTimes at h
  split at h
  · cases h
  · rename_i y k hy
    obtain ⟨h1, h2⟩ := pPart_adv hf hy
    injection h with h
    have := pSigns_adv (t := t) (t.length + 1) k y
    rw [h] at this
    simp only at this
    omega
theorem pParts_adv {f : Nat → Except Nat (Rx × Nat)} (hf : Good f) {t : List Nat} : ∀ (k i : Nat) (l : List Rx) {j : Nat} {m : List Rx}, pParts f t k i l = .ok (m, j) → i ≤ j ∧ szs m ≤ szs l + 4 * (j - i)
  | 0, i, l, j, m, h => by
    simp only [pParts] at h
    injection h with h
    injection h with e1 e2
    subst e1 e2
    omega
  | k + 1, i, l, j, m, h => by
    unfold pParts at h
    split at h
    · split at h
      · cases h
      · rename_i y n hy
        have := pTimes_adv hf hy
        have := pParts_adv hf k n _ h
        rw [szs_append] at this
        simp only [szs] at this
        omega
    · injection h with h
      injection h with e1 e2
      subst e1 e2
      omega
theorem pRow_adv {f : Nat → Except Nat (Rx × Nat)} (hf : Good f) {t : List Nat} {i j : Nat} {x : Rx} (h : pRow f t i = .ok (x, j)) : i ≤ j ∧ sz x ≤ 4 * (j - i) + 1 := by
  unfold pRow at h
  split at h
  · cases h
  · rename_i l k hl
    have := pParts_adv hf _ _ _ hl
    injection h with h
    injection h with e1 e2
    subst e1 e2
    simp only [sz, szs] at this ⊢
    omega
theorem pBars_adv {f : Nat → Except Nat (Rx × Nat)} (hf : Good f) {t : List Nat} : ∀ (k i : Nat) (l : List Rx) {j : Nat} {m : List Rx}, pBars f t k i l = .ok (m, j) → i ≤ j ∧ szs m ≤ szs l + 4 * (j - i)
  | 0, i, l, j, m, h => by
    simp only [pBars] at h
    injection h with h
    injection h with e1 e2
    subst e1 e2
    omega
  | k + 1, i, l, j, m, h => by
    unfold pBars at h
    split at h
    · split at h
      · cases h
      · rename_i y n hy
        have := pRow_adv hf hy
        have := pBars_adv hf k n _ h
        rw [szs_append] at this
        simp only [szs] at this
        omega
    · injection h with h
      injection h with e1 e2
      subst e1 e2
      omega
theorem pPat_good (t : List Nat) : ∀ n, Good (pPat t n)
  | 0 => fun i x k h => by cases h
  | n + 1 => fun i x k h => by
    unfold pPat at h
    split at h
    · cases h
    · rename_i y j hy
      split at h
      · cases h
      · rename_i l m hl
        have := pRow_adv (pPat_good t n) hy
        have := pBars_adv (pPat_good t n) _ _ _ hl
        injection h with h
        injection h with e1 e2
        subst e1 e2
        simp only [sz, szs] at this ⊢
        omega
end Rx
end Go.Proofs.YtmlmnckhiianhaaDoor
