/- What the laws' texts are: rows, bars and signs of patterns in brackets. -/
import Derived.Test.YtmlmnckhiianhaaDoorRxX
namespace Go.Proofs.YtmlmnckhiianhaaDoor
set_option linter.unusedVariables false
namespace Rx

/-- No sign of times. -/
def NoSign (c : Option Nat) : Prop := c ≠ some 42 ∧ c ≠ some 43 ∧ c ≠ some 63
theorem sign_none {c : Option Nat} (h : NoSign c) (x : Rx) : sign c x = none := by
  unfold sign
  rw [if_neg h.1, if_neg h.2.1, if_neg h.2.2]
theorem times_plain {f : Nat → Except Nat (Rx × Nat)} {t : List Nat} {i j : Nat} {x : Rx} (hp : pPart f t i = .ok (x, j)) (hs : NoSign t[j]?) : pTimes f t i = .ok (x, j) := by
  unfold pTimes
  rw [hp]
  simp only
  unfold pSigns
  rw [sign_none hs]
theorem times_sign {f : Nat → Except Nat (Rx × Nat)} {t : List Nat} {i j : Nat} {x y : Rx} (hp : pPart f t i = .ok (x, j)) (h0 : 0 < t.length) (hy : sign t[j]? x = some y) (hs : NoSign t[j + 1]?) : pTimes f t i = .ok (y, j + 1) := by
  unfold pTimes
  rw [hp]
  obtain ⟨n, hn⟩ : ∃ n, t.length = n + 1 := ⟨t.length - 1, by omega⟩
  simp only [hn]
  unfold pSigns
  rw [hy]
  simp only
  unfold pSigns
  rw [sign_none hs]
theorem times_err {f : Nat → Except Nat (Rx × Nat)} {t : List Nat} {i : Nat} (hp : pPart f t i = .error 9) : pTimes f t i = .error 9 := by
  unfold pTimes
  rw [hp]
theorem parts_step {f : Nat → Except Nat (Rx × Nat)} {t : List Nat} {i j k : Nat} {x : Rx} {l : List Rx} (hi : i < t.length) (h1 : t[i]? ≠ some 124) (h2 : t[i]? ≠ some 41) (hp : pTimes f t i = .ok (x, j)) : pParts f t (k + 1) i l = pParts f t k j (l ++ [x]) := by
  conv => lhs; unfold pParts
  rw [if_pos ⟨hi, h1, h2⟩, hp]
theorem parts_stop {f : Nat → Except Nat (Rx × Nat)} {t : List Nat} {i k : Nat} {l : List Rx} (h : ¬ (i < t.length ∧ t[i]? ≠ some 124 ∧ t[i]? ≠ some 41)) : pParts f t k i l = .ok (l, i) := by
  cases k with
  | zero => rfl
  | succ k => unfold pParts; rw [if_neg h]
theorem row_err {f : Nat → Except Nat (Rx × Nat)} {t : List Nat} {i : Nat} (hi : i < t.length) (h1 : t[i]? ≠ some 124) (h2 : t[i]? ≠ some 41) (hp : pTimes f t i = .error 9) : pRow f t i = .error 9 := by
  unfold pRow pParts
  rw [if_pos ⟨hi, h1, h2⟩, hp]
/-- A text that is one row. -/
theorem parse_row {t : List Nat} {l : List Rx} (ht : t.length ≤ 64) (hp : pParts (pPat t 7) t (t.length + 1) 0 [] = .ok (l, t.length)) : parse t = .ok (.either [.row l]) := by
  refine ok_parse ht ?_
  have hR : pRow (pPat t 7) t 0 = .ok (.row l, t.length) := by
    unfold pRow
    rw [hp]
  have hB : pBars (pPat t 7) t (t.length + 1) t.length [.row l] = .ok ([.row l], t.length) := by
    unfold pBars
    rw [if_neg (by simp)]
  unfold pPat
  rw [hR]
  simp only [hB]
/-- A text that is two rows. -/
theorem parse_two {t : List Nat} {l m : List Rx} {j : Nat} (ht : t.length ≤ 64) (h0 : 0 < t.length) (hp : pParts (pPat t 7) t (t.length + 1) 0 [] = .ok (l, j)) (hj : t[j]? = some 124) (hq : pParts (pPat t 7) t (t.length + 1) (j + 1) [] = .ok (m, t.length)) : parse t = .ok (.either [.row l, .row m]) := by
  refine ok_parse ht ?_
  obtain ⟨n, hn⟩ : ∃ n, t.length = n + 1 := ⟨t.length - 1, by omega⟩
  have hR : pRow (pPat t 7) t 0 = .ok (.row l, j) := by
    unfold pRow
    rw [hp]
  have hR2 : pRow (pPat t 7) t (j + 1) = .ok (.row m, t.length) := by
    unfold pRow
    rw [hq]
  have hE : pBars (pPat t 7) t t.length t.length [.row l, .row m] = .ok ([.row l, .row m], t.length) := by
    rw [hn]
    unfold pBars
    rw [if_neg (by rw [← hn]; simp)]
  have hB : pBars (pPat t 7) t (t.length + 1) j [.row l] = .ok ([.row l, .row m], t.length) := by
    conv => lhs; unfold pBars
    rw [if_pos hj, hR2]
    exact hE
  unfold pPat
  rw [hR]
  simp only [hB]
theorem parse_err {t : List Nat} (ht : t.length ≤ 64) (hp : pRow (pPat t 7) t 0 = .error 9) : parse t = .error 9 := by
  unfold parse
  rw [if_neg (by omega)]
  have : pPat t 8 0 = .error 9 := by
    unfold pPat
    rw [hp]
  rw [this]

/-- A pattern that isn't too deep for brackets. -/
def Flat (p : List Nat) (x : Rx) : Prop := pPat p 7 0 = .ok (x, p.length)
/-- A text in brackets. -/
def br (p : List Nat) : List Nat := 40 :: (p ++ [41])
theorem br_len (p : List Nat) : (br p).length = p.length + 2 := by simp [br]
theorem br_within (a p b : List Nat) : Within p (a ++ (br p ++ b)) (a.length + 1) ∧ (a ++ (br p ++ b))[a.length]? = some 40 := by
  refine ⟨⟨fun i c hc => ?_, ?_⟩, ?_⟩
  · have hi := get_lt hc
    rw [List.getElem?_append_right (by omega), show a.length + 1 + i - a.length = i + 1 by omega]
    simp only [br, List.cons_append, List.getElem?_cons_succ]
    rw [List.append_assoc, List.getElem?_append_left hi, hc]
  · rw [List.getElem?_append_right (by omega), show a.length + 1 + p.length - a.length = p.length + 1 by omega]
    simp only [br, List.cons_append, List.getElem?_cons_succ]
    rw [List.append_assoc, List.getElem?_append_right (by omega)]
    simp
  · rw [List.getElem?_append_right (by omega)]
    simp [br]
theorem br_part {p : List Nat} {x : Rx} (hp : parse p = .ok x) (hf : Flat p x) (a b : List Nat) : pPart (pPat (a ++ (br p ++ b)) 7) (a ++ (br p ++ b)) a.length = .ok (x, a.length + p.length + 2) := by
  obtain ⟨h1, h2⟩ := br_within a p b
  rcases pPart_bracket hp h1 h2 with ⟨_, h⟩ | ⟨h, _⟩
  · exact h
  · unfold Flat at hf
    rw [h] at hf
    cases hf
/-- A pattern in brackets is one just if it isn't too deep. -/
theorem parse_br {p : List Nat} {x : Rx} (hp : parse p = .ok x) (hl : p.length ≤ 62) : (Flat p x ∧ parse (br p) = .ok (.either [.row [x]])) ∨ parse (br p) = .error 9 := by
  have hh := br_within [] p []
  simp only [List.nil_append, List.append_nil, List.length_nil] at hh
  obtain ⟨h1, h2⟩ := hh
  have hn := br_len p
  rcases pPart_bracket hp h1 h2 with ⟨hf, h⟩ | ⟨_, h⟩
  · refine .inl ⟨hf, parse_row (by omega) ?_⟩
    rw [parts_step (by omega) (by rw [h2]; simp) (by rw [h2]; simp) (times_plain h (by rw [List.getElem?_eq_none (by omega)]; simp [NoSign]))]
    rw [parts_stop (by omega)]
    simp only [List.nil_append]
    congr 2
    omega
  · exact .inr (parse_err (by omega) (row_err (by omega) (by rw [h2]; simp) (by rw [h2]; simp) (times_err h)))
/-- Two patterns in brackets, one behind the other. -/
theorem parse_brs {p q : List Nat} {x y : Rx} (hp : parse p = .ok x) (hq : parse q = .ok y) (hl : p.length + q.length ≤ 60) (hf : Flat p x) (hg : Flat q y) : parse (br p ++ br q) = .ok (.either [.row [x, y]]) := by
  have a1 := br_part hp hf [] (br q)
  have a2 := br_part hq hg (br p) []
  have b1 := (br_within [] p (br q)).2
  have b2 := (br_within (br p) q []).2
  simp only [List.nil_append, List.append_nil, List.length_nil] at a1 a2 b1 b2
  have hn := br_len p
  have hm := br_len q
  have hT : (br p ++ br q).length = p.length + q.length + 4 := by simp [hn, hm]; omega
  refine parse_row (by omega) ?_
  rw [hn] at a2 b2
  rw [parts_step (by omega) (by rw [b1]; simp) (by rw [b1]; simp) (times_plain a1 (by rw [show 0 + p.length + 2 = p.length + 2 by omega, b2]; simp [NoSign]))]
  rw [show (br p ++ br q).length = (p.length + q.length + 3) + 1 by omega]
  rw [show 0 + p.length + 2 = p.length + 2 by omega]
  rw [parts_step (by omega) (by rw [b2]; simp) (by rw [b2]; simp) (times_plain a2 (by rw [List.getElem?_eq_none (by omega)]; simp [NoSign]))]
  rw [parts_stop (by omega)]
  simp only [List.nil_append, List.cons_append]
  congr 2
  omega
/-- Two patterns in brackets, of which any may come. -/
theorem parse_ors {p q : List Nat} {x y : Rx} (hp : parse p = .ok x) (hq : parse q = .ok y) (hl : p.length + q.length ≤ 59) (hf : Flat p x) (hg : Flat q y) : parse (br p ++ (124 :: br q)) = .ok (.either [.row [x], .row [y]]) := by
  have a1 := br_part hp hf [] (124 :: br q)
  have a2 := br_part hq hg (br p ++ [124]) []
  have b1 := (br_within [] p (124 :: br q)).2
  have b2 := (br_within (br p ++ [124]) q []).2
  have hn := br_len p
  have hm := br_len q
  simp only [List.nil_append, List.append_nil, List.length_nil, List.append_assoc, List.cons_append, List.length_append, List.length_cons] at a1 a2 b1 b2
  have hT : (br p ++ (124 :: br q)).length = p.length + q.length + 5 := by simp [hn, hm]; omega
  have hbar : (br p ++ (124 :: br q))[p.length + 2]? = some 124 := by
    rw [List.getElem?_append_right (by omega), hn]
    simp
  rw [hn] at a2 b2
  simp only [Nat.zero_add] at a1 a2 b2
  refine parse_two (j := p.length + 2) (by omega) (by omega) ?_ hbar ?_
  · rw [parts_step (by omega) (by rw [b1]; simp) (by rw [b1]; simp) (times_plain a1 (by rw [hbar]; simp [NoSign]))]
    rw [parts_stop (by rw [hbar]; simp)]
    rfl
  · rw [parts_step (by omega) (by rw [b2]; simp) (by rw [b2]; simp) (times_plain a2 (by rw [List.getElem?_eq_none (by omega)]; simp [NoSign]))]
    rw [parts_stop (by omega)]
    simp only [List.nil_append]
    congr 2
    omega
end Rx
end Go.Proofs.YtmlmnckhiianhaaDoor
