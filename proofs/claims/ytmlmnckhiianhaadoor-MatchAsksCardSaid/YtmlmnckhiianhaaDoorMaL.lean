/- A matcher as a text, and matchers: no Go in sight. -/
import Derived.Test.YtmlmnckhiianhaaDoorMaA
namespace Go.Proofs.YtmlmnckhiianhaaDoor
set_option linter.unusedVariables false

/-- Behind the first quote: the text and what stands behind it. -/
def uq : List Nat → Option (List Nat × List Nat)
  | [] => none
  | [c] => if c = 34 then some ([], []) else none
  | c :: d :: q => if c = 34 then some ([], d :: q) else if c = 10 then none else if c = 92 then (if d = 110 then (uq q).map (fun p => (10 :: p.1, p.2)) else if d = 34 ∨ d = 92 then (uq q).map (fun p => (d :: p.1, p.2)) else none) else (uq (d :: q)).map (fun p => (c :: p.1, p.2))
def unquote : List Nat → Option (List Nat × List Nat)
  | [] => none
  | c :: r => if c = 34 then uq r else none
def addp (a : List Nat) (o : Option (List Nat × List Nat)) : Option (List Nat × List Nat) := o.map (fun p => (a ++ p.1, p.2))
theorem addp_nil (o : Option (List Nat × List Nat)) : addp [] o = o := by cases o <;> rfl
theorem addp_cons (a : List Nat) (c : Nat) (o : Option (List Nat × List Nat)) : addp a (o.map (fun p => (c :: p.1, p.2))) = addp (a ++ [c]) o := by
  cases o with
  | none => rfl
  | some p => simp [addp]
theorem uq_quote (r : List Nat) : uq (34 :: r) = some ([], r) := by cases r <;> simp [uq]
theorem uq_feed (r : List Nat) : uq (10 :: r) = none := by cases r <;> simp [uq]
theorem uq_end : uq [92] = none := by simp [uq]
theorem uq_plain {c : Nat} (h1 : c ≠ 34) (h2 : c ≠ 10) (h3 : c ≠ 92) (r : List Nat) : uq (c :: r) = (uq r).map (fun p => (c :: p.1, p.2)) := by
  cases r with
  | nil => unfold uq; rw [if_neg h1]; rfl
  | cons d q => conv => lhs; unfold uq
                rw [if_neg h1, if_neg h2, if_neg h3]
theorem uq_n (q : List Nat) : uq (92 :: 110 :: q) = (uq q).map (fun p => (10 :: p.1, p.2)) := by
  conv => lhs; unfold uq
  rw [if_neg (by decide), if_neg (by decide), if_pos rfl, if_pos rfl]
theorem uq_esc {d : Nat} (h : d = 34 ∨ d = 92) (q : List Nat) : uq (92 :: d :: q) = (uq q).map (fun p => (d :: p.1, p.2)) := by
  conv => lhs; unfold uq
  rw [if_neg (by decide), if_neg (by decide), if_pos rfl, if_neg (by omega), if_pos h]
theorem uq_bad {d : Nat} (h1 : d ≠ 110) (h : ¬ (d = 34 ∨ d = 92)) (q : List Nat) : uq (92 :: d :: q) = none := by
  conv => lhs; unfold uq
  rw [if_neg (by decide), if_neg (by decide), if_pos rfl, if_neg h1, if_neg h]
theorem drop_get {u : List Nat} {i c : Nat} (h : u[i]? = some c) : u.drop i = c :: u.drop (i + 1) := by
  have hi := (List.getElem?_eq_some_iff.1 h).1
  rw [List.drop_eq_getElem_cons hi]; congr 1
  rw [List.getElem?_eq_getElem hi] at h; injection h
end Go.Proofs.YtmlmnckhiianhaaDoor

namespace Go.Proofs.YtmlmnckhiianhaaDoor
set_option linter.unusedVariables false

/-- No sign of a way. -/
def nk (c : Nat) : Bool := !(c == 61 || c == 33)
/-- The ways, as texts. -/
def pre : Nat → List Nat
  | 0 => [61]
  | 1 => [33, 61]
  | 2 => [61, 126]
  | _ => [33, 126]
def pb (v : List Nat) (j : Nat) : Bool := (pre j ++ [34]).isPrefixOf v
/-- The last of the first ways that stands at the beginning of a text, with a quote behind it. -/
def opAt (v : List Nat) : Nat → Int
  | 0 => -1
  | i + 1 => if pb v i then (i : Int) else opAt v i
theorem opAt_lt (v : List Nat) : ∀ i, opAt v i < i
  | 0 => by simp [opAt]
  | i + 1 => by
    unfold opAt
    split
    · omega
    · have := opAt_lt v i; omega
theorem opAt_ge (v : List Nat) : ∀ i, -1 ≤ opAt v i
  | 0 => by simp [opAt]
  | i + 1 => by
    unfold opAt
    split
    · omega
    · exact opAt_ge v i
/-- A matcher at the beginning of a text, and what stands behind it. -/
def oneP (u : List Nat) : Option (Mat × List Nat) :=
  if opAt (u.dropWhile nk) 4 < 0 then none
  else (unquote ((u.dropWhile nk).drop (pre (opAt (u.dropWhile nk) 4).toNat).length)).map fun p => (⟨u.takeWhile nk, opAt (u.dropWhile nk) 4, p.1⟩, p.2)
/-- Matchers behind the brace that opens; l: those that have been read. -/
def parseL : Nat → List Mat → List Nat → Option (List Mat)
  | 0, _, _ => none
  | n + 1, l, u =>
    if u = [125] then some l
    else if l.isEmpty then
      match oneP u with
      | none => none
      | some p => parseL n (l ++ [p.1]) p.2
    else match u with
      | 44 :: r => match oneP r with
        | none => none
        | some p => parseL n (l ++ [p.1]) p.2
      | _ => none
def parseM (u : List Nat) : Option (List Mat) :=
  match u with
  | 123 :: r => parseL (r.length + 1) [] r
  | _ => none
theorem opAt_nil : opAt [] 4 = -1 := by decide
theorem takeWhile_len {u : List Nat} (p : Nat → Bool) : u.takeWhile p = u.take (u.takeWhile p).length := by
  induction u with
  | nil => rfl
  | cons a l ih =>
    rw [List.takeWhile_cons]
    split
    · simp only [List.length_cons, List.take_succ_cons]; congr 1
    · rfl
theorem dropWhile_len {u : List Nat} (p : Nat → Bool) : u.dropWhile p = u.drop (u.takeWhile p).length := by
  induction u with
  | nil => rfl
  | cons a l ih =>
    rw [List.takeWhile_cons, List.dropWhile_cons]
    split
    · simp only [List.length_cons, List.drop_succ_cons]; exact ih
    · rfl
theorem uq_len : ∀ (n : Nat) (u : List Nat) (p : List Nat × List Nat), u.length ≤ n → uq u = some p → p.1.length + p.2.length < u.length
  | 0, u, p, hn, h => by
    have : u = [] := List.length_eq_zero_iff.1 (by omega)
    subst this; simp [uq] at h
  | n + 1, [], p, hn, h => by simp [uq] at h
  | n + 1, [c], p, hn, h => by
    unfold uq at h
    split at h
    · injection h with h; subst h; simp
    · cases h
  | n + 1, c :: d :: q, p, hn, h => by
    unfold uq at h
    simp at hn
    split at h
    · injection h with h; subst h; simp
    · split at h
      · cases h
      · split at h
        · split at h
          · obtain ⟨y, hy, rfl⟩ := Option.map_eq_some_iff.1 h
            have := uq_len n q y (by omega) hy
            simp; omega
          · split at h
            · obtain ⟨y, hy, rfl⟩ := Option.map_eq_some_iff.1 h
              have := uq_len n q y (by omega) hy
              simp; omega
            · cases h
        · obtain ⟨y, hy, rfl⟩ := Option.map_eq_some_iff.1 h
          have := uq_len n (d :: q) y (by simp; omega) hy
          simp at this ⊢; omega
theorem unquote_len {u : List Nat} {p : List Nat × List Nat} (h : unquote u = some p) : p.1.length + p.2.length < u.length := by
  cases u with
  | nil => simp [unquote] at h
  | cons c r =>
    change (if c = 34 then uq r else none) = some p at h
    by_cases hc : c = 34
    · rw [if_pos hc] at h
      have := uq_len _ r p (Nat.le_refl _) h
      simp; omega
    · rw [if_neg hc] at h; cases h
theorem oneP_len {u : List Nat} {p : Mat × List Nat} (h : oneP u = some p) : p.1.value.length + p.2.length < u.length := by
  unfold oneP at h
  split at h
  · cases h
  · obtain ⟨y, hy, rfl⟩ := Option.map_eq_some_iff.1 h
    have := unquote_len hy
    rw [List.length_drop, dropWhile_len, List.length_drop] at this
    simp only
    omega
/-- The document's example. -/
theorem parse_example : parseM [123, 97, 61, 34, 120, 34, 44, 98, 61, 126, 34, 121, 46, 42, 34, 125] = some [⟨[97], 0, [120]⟩, ⟨[98], 2, [121, 46, 42]⟩] := by rfl
end Go.Proofs.YtmlmnckhiianhaaDoor
