/- What the laws' patterns mean: rows, bars, times. -/
import Derived.Test.YtmlmnckhiianhaaDoorRxY
import Derived.Test.YtmlmnckhiianhaaDoorRxT
namespace Go.Proofs.YtmlmnckhiianhaaDoor
set_option linter.unusedVariables false
namespace Rx

/-- A pattern in brackets with a sign behind it. -/
theorem parse_signed {p : List Nat} {x y : Rx} {c : Nat} (hp : parse p = .ok x) (hl : p.length ≤ 61) (hf : Flat p x) (hc : c ≠ 124 ∧ c ≠ 41) (hy : sign (some c) x = some y) : parse (br p ++ [c]) = .ok (.either [.row [y]]) := by
  have a1 := br_part hp hf [] [c]
  have b1 := (br_within [] p [c]).2
  have hn := br_len p
  simp only [List.nil_append, List.length_nil] at a1 b1
  have hT : (br p ++ [c]).length = p.length + 3 := by simp [hn]
  have hs : (br p ++ [c])[0 + p.length + 2]? = some c := by
    rw [List.getElem?_append_right (by omega), hn, show 0 + p.length + 2 - (p.length + 2) = 0 by omega]
    rfl
  refine parse_row (by omega) ?_
  rw [parts_step (by omega) (by rw [b1]; simp) (by rw [b1]; simp) (times_sign a1 (by omega) (by rw [hs]; exact hy) (by rw [List.getElem?_eq_none (by omega)]; simp [NoSign]))]
  rw [parts_stop (by omega)]
  simp only [List.nil_append]
  congr 2
  omega
/-- Twice a pattern in brackets, the second time with a sign behind it. -/
theorem parse_then {p q : List Nat} {x z y : Rx} {c : Nat} (hp : parse p = .ok x) (hq : parse q = .ok z) (hl : p.length + q.length ≤ 59) (hf : Flat p x) (hg : Flat q z) (hc : c ≠ 124 ∧ c ≠ 41) (hy : sign (some c) z = some y) : parse (br p ++ (br q ++ [c])) = .ok (.either [.row [x, y]]) := by
  have a1 := br_part hp hf [] (br q ++ [c])
  have a2 := br_part hq hg (br p) [c]
  have b1 := (br_within [] p (br q ++ [c])).2
  have b2 := (br_within (br p) q [c]).2
  simp only [List.nil_append, List.length_nil] at a1 b1
  have hn := br_len p
  have hm := br_len q
  have hT : (br p ++ (br q ++ [c])).length = p.length + q.length + 5 := by simp [hn, hm]; omega
  rw [hn] at a2 b2
  have hs : (br p ++ (br q ++ [c]))[p.length + 2 + q.length + 2]? = some c := by
    rw [List.getElem?_append_right (by omega), List.getElem?_append_right (by omega), hn, hm, show p.length + 2 + q.length + 2 - (p.length + 2) - (q.length + 2) = 0 by omega]
    rfl
  refine parse_row (by omega) ?_
  rw [parts_step (by omega) (by rw [b1]; simp) (by rw [b1]; simp) (times_plain a1 (by rw [show 0 + p.length + 2 = p.length + 2 by omega, b2]; simp [NoSign]))]
  rw [show (br p ++ (br q ++ [c])).length = (p.length + q.length + 4) + 1 by omega]
  rw [show 0 + p.length + 2 = p.length + 2 by omega]
  rw [parts_step (by omega) (by rw [b2]; simp) (by rw [b2]; simp) (times_sign a2 (by omega) (by rw [hs]; exact hy) (by rw [List.getElem?_eq_none (by omega)]; simp [NoSign]))]
  rw [parts_stop (by omega)]
  simp only [List.nil_append, List.cons_append]
  congr 2
  omega

theorem L_one (x : Rx) (u : List Nat) : L (.either [.row [x]]) u ↔ L x u := by
  simp only [L, LAny, LRow, or_false]
  constructor
  · rintro ⟨a, b, rfl, h, rfl⟩
    simpa using h
  · intro h
    exact ⟨u, [], by simp, h, rfl⟩
theorem L_seq (x y : Rx) (u : List Nat) : L (.either [.row [x, y]]) u ↔ ∃ a b, u = a ++ b ∧ L x a ∧ L y b := by
  simp only [L, LAny, LRow, or_false]
  constructor
  · rintro ⟨a, b, rfl, h, c, d, rfl, h2, rfl⟩
    exact ⟨a, c, by simp, h, h2⟩
  · rintro ⟨a, b, rfl, h, h2⟩
    exact ⟨a, b, rfl, h, b, [], by simp, h2, rfl⟩
theorem L_or (x y : Rx) (u : List Nat) : L (.either [.row [x], .row [y]]) u ↔ L x u ∨ L y u := by
  have h1 := L_one x u
  have h2 := L_one y u
  simp only [L, LAny, or_false] at h1 h2 ⊢
  rw [h1, h2]
theorem Star_iff (P : List Nat → Prop) (u : List Nat) : Star P u ↔ u = [] ∨ ∃ a b, u = a ++ b ∧ P a ∧ Star P b := by
  constructor
  · intro h
    cases h with
    | nil => exact .inl rfl
    | cons h1 h2 => exact .inr ⟨_, _, rfl, h1, h2⟩
  · rintro (rfl | ⟨a, b, rfl, h1, h2⟩)
    · exact .nil
    · exact .cons h1 h2
end Rx
open Rx
theorem mt_congr {x y : Rx} {u : List Nat} (h : L x u ↔ L y u) : mt x u = mt y u := by
  cases hy : mt y u with
  | true => exact mt_true (h.2 (mt_iff.1 hy))
  | false => exact mt_false (fun hx => by rw [mt_true (h.1 hx)] at hy; cases hy)
/-- RegexStars, plain: once or more is once and as often as one likes. -/
theorem mt_plus (x : Rx) (u : List Nat) : mt (.either [.row [.plus x]]) u = mt (.either [.row [x, .star x]]) u := by
  apply mt_congr
  rw [L_one, L_seq]
  simp only [L]
/-- As often as one likes is not at all, or once or more. -/
theorem mt_star (x : Rx) (u : List Nat) : mt (.either [.row [.star x]]) u = (decide (u = []) || mt (.either [.row [.plus x]]) u) := by
  have h : L (.either [.row [.star x]]) u ↔ u = [] ∨ L (.either [.row [.plus x]]) u := by
    rw [L_one, L_one]
    simp only [L]
    exact Star_iff _ _
  by_cases hu : u = []
  · rw [mt_true (h.2 (.inl hu))]; simp [hu]
  · simp only [hu, decide_false, Bool.false_or]
    exact mt_congr (h.trans ⟨fun e => e.resolve_left hu, .inr⟩)
/-- Perhaps is not at all, or once. -/
theorem mt_maybe (x : Rx) (u : List Nat) : mt (.either [.row [.maybe x]]) u = (decide (u = []) || mt (.either [.row [x]]) u) := by
  have h : L (.either [.row [.maybe x]]) u ↔ u = [] ∨ L (.either [.row [x]]) u := by
    rw [L_one, L_one]
    simp only [L]
  by_cases hu : u = []
  · rw [mt_true (h.2 (.inl hu))]; simp [hu]
  · simp only [hu, decide_false, Bool.false_or]
    exact mt_congr (h.trans ⟨fun e => e.resolve_left hu, .inr⟩)
theorem mt_or (x y : Rx) (u : List Nat) : mt (.either [.row [x], .row [y]]) u = (mt (.either [.row [x]]) u || mt (.either [.row [y]]) u) := by
  have h := L_or x y u
  rw [← L_one x, ← L_one y] at h
  cases hx : mt (.either [.row [x]]) u with
  | true => exact mt_true (h.2 (.inl (mt_iff.1 hx)))
  | false =>
    rw [Bool.false_or]
    exact mt_congr (h.trans ⟨fun e => e.resolve_left (fun e => by rw [mt_true e] at hx; cases hx), .inr⟩)
/-- Whether a text can be cut at a place below k. -/
noncomputable def cut (x y : Rx) (u : List Nat) : Nat → Bool
  | 0 => false
  | k + 1 => cut x y u k || (mt x (u.take k) && mt y (u.drop k))
theorem cut_iff (x y : Rx) (u : List Nat) : ∀ k, cut x y u k = true ↔ ∃ i, i < k ∧ L x (u.take i) ∧ L y (u.drop i)
  | 0 => by simp [cut]
  | k + 1 => by
    simp only [cut, Bool.or_eq_true, Bool.and_eq_true, cut_iff x y u k, mt_iff]
    constructor
    · rintro (⟨i, h1, h2⟩ | h)
      · exact ⟨i, by omega, h2⟩
      · exact ⟨k, by omega, h⟩
    · rintro ⟨i, h1, h2⟩
      by_cases e : i = k
      · subst e; exact .inr h2
      · exact .inl ⟨i, by omega, h2⟩
/-- A row of two patterns is all of a text just if that can be cut in two. -/
theorem mt_seq (x y : Rx) (u : List Nat) : mt (.either [.row [x, y]]) u = cut (.either [.row [x]]) (.either [.row [y]]) u (u.length + 1) := by
  have h : L (.either [.row [x, y]]) u ↔ cut (.either [.row [x]]) (.either [.row [y]]) u (u.length + 1) = true := by
    rw [L_seq, cut_iff]
    constructor
    · rintro ⟨a, b, rfl, h1, h2⟩
      refine ⟨a.length, by simp; omega, ?_, ?_⟩
      · rw [L_one]; simpa using h1
      · rw [L_one]; simpa using h2
    · rintro ⟨i, _, h1, h2⟩
      rw [L_one] at h1 h2
      exact ⟨_, _, (List.take_append_drop i u).symm, h1, h2⟩
  cases hc : cut (.either [.row [x]]) (.either [.row [y]]) u (u.length + 1) with
  | true => exact mt_true (h.2 hc)
  | false => exact mt_false (fun e => by rw [h.1 e] at hc; cases hc)
end Go.Proofs.YtmlmnckhiianhaaDoor
