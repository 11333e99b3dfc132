/- Matchers: what may be asked, and when it holds; no Go in sight. -/
import Derived.Test.YtmlmnckhiianhaaDoorRxT
namespace Go.Proofs.YtmlmnckhiianhaaDoor

/-- A byte that a name may begin with. -/
def lowCh (c : Nat) : Bool := (decide (97 ≤ c) && decide (c ≤ 122)) || (decide (65 ≤ c) && decide (c ≤ 90)) || c == 95
def digCh (c : Nat) : Bool := decide (48 ≤ c) && decide (c ≤ 57)
/-- A name: its bytes from i on. -/
def nameFrom : Nat → List Nat → Bool
  | _, [] => true
  | i, c :: u => (lowCh c || (decide (0 < i) && digCh c)) && nameFrom (i + 1) u
def nameOK (u : List Nat) : Bool := decide (1 ≤ u.length) && decide (u.length ≤ 64) && nameFrom 0 u
theorem nameFrom_app : ∀ (i : Nat) (u v : List Nat), nameFrom i (u ++ v) = (nameFrom i u && nameFrom (i + u.length) v)
  | i, [], v => by simp [nameFrom]
  | i, c :: u, v => by
    simp only [List.cons_append, nameFrom, nameFrom_app (i + 1) u v, List.length_cons, Bool.and_assoc]
    have e : i + 1 + u.length = i + (u.length + 1) := by omega
    rw [e]
theorem nameFrom_take {u : List Nat} {i c : Nat} (h : u[i]? = some c) : nameFrom 0 (u.take (i + 1)) = (nameFrom 0 (u.take i) && (lowCh c || (decide (0 < i) && digCh c))) := by
  have hl := (List.getElem?_eq_some_iff.1 h).1
  have e : u.take (i + 1) = u.take i ++ [c] := by rw [List.take_add_one, h]; rfl
  rw [e, nameFrom_app]
  have : (u.take i).length = i := by rw [List.length_take]; omega
  rw [this, Nat.zero_add]
  simp [nameFrom]
theorem nameFrom_bad {u : List Nat} {i : Nat} (h : nameFrom 0 (u.take i) = false) : nameFrom 0 u = false := by
  have e := nameFrom_app 0 (u.take i) (u.drop i)
  rw [List.take_append_drop] at e
  rw [e, h]; rfl
end Go.Proofs.YtmlmnckhiianhaaDoor

namespace Go.Proofs.YtmlmnckhiianhaaDoor
set_option linter.unusedVariables false

/-- A matcher: a name, how, a value. -/
structure Mat where
  name : List Nat
  op : Int
  value : List Nat
/-- A label: a name, a value. -/
structure Lbl where
  name : List Nat
  value : List Nat
/-- What is wrong with a pattern. -/
def parseErr (u : List Nat) : Nat := match Rx.parse u with
  | .ok _ => 0
  | .error e => e
/-- What is wrong with a matcher. -/
def matErr (m : Mat) : Nat :=
  if m.op < 0 ∨ 3 < m.op then 1
  else if nameOK m.name = false ∨ 64 < m.value.length then 26
  else if 2 ≤ m.op then parseErr m.value else 0
/-- What is wrong with matchers, the first fault. -/
def matsErr : List Mat → Nat
  | [] => 0
  | m :: l => if matErr m = 0 then matsErr l else matErr m
def checkErr (l : List Mat) : Nat := if 16 < l.length then 9 else matsErr l
/-- The value of a name: the first label's; none: the empty one. -/
def valOf : List Lbl → List Nat → List Nat
  | [], _ => []
  | x :: l, n => if x.name = n then x.value else valOf l n
open Classical in
/-- Does a pattern's text mean a value? -/
noncomputable def asks (p v : List Nat) : Bool := match Rx.parse p with
  | .ok x => mt x v
  | .error _ => false
open Classical in
/-- Does a matcher hold of a value? -/
noncomputable def holdsV (m : Mat) (v : List Nat) : Bool :=
  if m.op = 0 then decide (v = m.value) else if m.op = 1 then !decide (v = m.value) else if m.op = 2 then asks m.value v else !asks m.value v
noncomputable def holdsAll (l : List Mat) (x : List Lbl) : Bool := l.all fun m => holdsV m (valOf x m.name)

theorem matsErr_ok {l : List Mat} : matsErr l = 0 ↔ ∀ m, m ∈ l → matErr m = 0 := by
  induction l with
  | nil => simp [matsErr]
  | cons a l ih =>
    unfold matsErr
    by_cases h : matErr a = 0
    · rw [if_pos h, ih]; simp [h]
    · rw [if_neg h]; simp [h]
theorem checkErr_ok {l : List Mat} : checkErr l = 0 ↔ l.length ≤ 16 ∧ ∀ m, m ∈ l → matErr m = 0 := by
  unfold checkErr
  by_cases h : 16 < l.length
  · rw [if_pos h]; simp; omega
  · rw [if_neg h, matsErr_ok]; simp; omega
/-- The opposite of a matcher. -/
def Mat.turn (m : Mat) : Mat := { m with op := if m.op % 2 = 0 then m.op + 1 else m.op - 1 }
theorem matErr_turn {m : Mat} (h : matErr m = 0) : matErr m.turn = 0 := by
  unfold matErr at h ⊢
  by_cases h1 : m.op < 0 ∨ 3 < m.op
  · rw [if_pos h1] at h; cases h
  · rw [if_neg h1] at h
    by_cases h2 : nameOK m.name = false ∨ 64 < m.value.length
    · rw [if_pos h2] at h; cases h
    · rw [if_neg h2] at h
      have ht : ¬ (m.turn.op < 0 ∨ 3 < m.turn.op) := by unfold Mat.turn; simp only; split <;> omega
      rw [if_neg ht, if_neg (show ¬ (nameOK m.turn.name = false ∨ 64 < m.turn.value.length) from h2)]
      by_cases h3 : 2 ≤ m.op
      · rw [if_pos h3] at h
        have h4 : 2 ≤ m.turn.op := by unfold Mat.turn; simp only; split <;> omega
        rw [if_pos h4]; exact h
      · have h4 : ¬ 2 ≤ m.turn.op := by unfold Mat.turn; simp only; split <;> omega
        rw [if_neg h4]
theorem holds_turn {m : Mat} (h : matErr m = 0) (v : List Nat) : holdsV m.turn v = !holdsV m v := by
  have hr : ¬ (m.op < 0 ∨ 3 < m.op) := by
    intro hh; unfold matErr at h; rw [if_pos hh] at h; cases h
  have h4 : m.op = 0 ∨ m.op = 1 ∨ m.op = 2 ∨ m.op = 3 := by omega
  unfold holdsV Mat.turn
  rcases h4 with e | e | e | e <;> simp [e]
end Go.Proofs.YtmlmnckhiianhaaDoor
