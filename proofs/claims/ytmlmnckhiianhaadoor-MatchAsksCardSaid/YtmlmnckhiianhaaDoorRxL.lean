/- The automaton of a pattern, state by state; no Go in sight. -/
import Derived.Test.YtmlmnckhiianhaaDoorRxP
namespace Go.Proofs.YtmlmnckhiianhaaDoor

/-- A state: a byte of a set, then the next state; or any of several states. -/
structure St where
  set : Nat → Bool
  eat : Bool
  next : List Nat
/-- No state yet, or none to speak of. -/
def St.none : St := ⟨fun _ => false, false, []⟩

namespace Rx
mutual
/-- A part's states ahead of state t; where it begins. -/
def lay : Rx → Nat → List St → List St × Nat
  | .byte p, t, S => (S ++ [⟨p, true, [t]⟩], S.length)
  | .row l, t, S => layRow l t S
  | .either l, t, S => ((layWays l t S).1 ++ [⟨fun _ => false, false, (layWays l t S).2⟩], (layWays l t S).1.length)
  | .star r, t, S => (((lay r S.length (S ++ [St.none])).1.set S.length ⟨fun _ => false, false, [(lay r S.length (S ++ [St.none])).2, t]⟩), S.length)
  | .plus r, t, S => (((lay r S.length (S ++ [St.none])).1.set S.length ⟨fun _ => false, false, [(lay r S.length (S ++ [St.none])).2, t]⟩), (lay r S.length (S ++ [St.none])).2)
  | .maybe r, t, S => ((lay r t S).1 ++ [⟨fun _ => false, false, [(lay r t S).2, t]⟩], (lay r t S).1.length)
/-- Parts that follow each other: the last one first. -/
def layRow : List Rx → Nat → List St → List St × Nat
  | [], t, S => (S, t)
  | x :: l, t, S => lay x (layRow l t S).2 (layRow l t S).1
/-- Parts of which any may come. -/
def layWays : List Rx → Nat → List St → List St × List Nat
  | [], _, S => (S, [])
  | x :: l, t, S => ((layWays l t (lay x t S).1).1, (lay x t S).2 :: (layWays l t (lay x t S).1).2)
end
theorem layRow_append (a b : List Rx) (t : Nat) (S : List St) : layRow (a ++ b) t S = layRow a (layRow b t S).2 (layRow b t S).1 := by
  induction a with
  | nil => simp [layRow]
  | cons x l ih => simp only [List.cons_append, layRow, ih]
theorem layWays_append (a b : List Rx) (t : Nat) (S : List St) : layWays (a ++ b) t S = ((layWays b t (layWays a t S).1).1, (layWays a t S).2 ++ (layWays b t (layWays a t S).1).2) := by
  induction a generalizing S with
  | nil => simp [layWays]
  | cons x l ih => simp only [List.cons_append, layWays, ih]
mutual
theorem lay_len : ∀ (x : Rx) (t : Nat) (S : List St), (lay x t S).1.length = S.length + wt x ∧ ((lay x t S).2 = t ∨ (lay x t S).2 < S.length + wt x)
  | .byte p, t, S => by simp [lay, wt]
  | .row l, t, S => by simpa [lay, wt] using layRow_len l t S
  | .either l, t, S => by
    have := layWays_len l t S
    simp [lay, wt, this.1]; omega
  | .star r, t, S => by
    have := lay_len r S.length (S ++ [St.none])
    simp [lay, wt] at *; omega
  | .plus r, t, S => by
    have := lay_len r S.length (S ++ [St.none])
    simp [lay, wt] at *; omega
  | .maybe r, t, S => by
    have := lay_len r t S
    simp [lay, wt] at *; omega
theorem layRow_len : ∀ (l : List Rx) (t : Nat) (S : List St), (layRow l t S).1.length = S.length + wts l ∧ ((layRow l t S).2 = t ∨ (layRow l t S).2 < S.length + wts l)
  | [], t, S => by simp [layRow, wts]
  | x :: l, t, S => by
    have h1 := layRow_len l t S
    have h2 := lay_len x (layRow l t S).2 (layRow l t S).1
    simp only [layRow, wts]
    omega
theorem layWays_len : ∀ (l : List Rx) (t : Nat) (S : List St), (layWays l t S).1.length = S.length + wts l ∧ (layWays l t S).2.length = l.length
  | [], t, S => by simp [layWays, wts]
  | x :: l, t, S => by
    have h1 := lay_len x t S
    have h2 := layWays_len l t (lay x t S).1
    simp only [layWays, wts, List.length_cons]
    omega
end
mutual
theorem lay_get : ∀ (x : Rx) (t : Nat) (S : List St) (i : Nat), i < S.length → (lay x t S).1[i]? = S[i]?
  | .byte p, t, S, i, h => by simp only [lay]; exact List.getElem?_append_left h
  | .row l, t, S, i, h => by simpa [lay] using layRow_get l t S i h
  | .either l, t, S, i, h => by
    have h1 := (layWays_len l t S).1
    simp only [lay]
    rw [List.getElem?_append_left (by omega)]
    exact layWays_get l t S i h
  | .star r, t, S, i, h => by
    simp only [lay]
    rw [List.getElem?_set_ne (by omega), lay_get r _ _ i (by simp; omega)]
    exact List.getElem?_append_left h
  | .plus r, t, S, i, h => by
    simp only [lay]
    rw [List.getElem?_set_ne (by omega), lay_get r _ _ i (by simp; omega)]
    exact List.getElem?_append_left h
  | .maybe r, t, S, i, h => by
    have h1 := (lay_len r t S).1
    simp only [lay]
    rw [List.getElem?_append_left (by omega)]
    exact lay_get r t S i h
theorem layRow_get : ∀ (l : List Rx) (t : Nat) (S : List St) (i : Nat), i < S.length → (layRow l t S).1[i]? = S[i]?
  | [], t, S, i, h => by simp [layRow]
  | x :: l, t, S, i, h => by
    have h1 := (layRow_len l t S).1
    simp only [layRow]
    rw [lay_get x _ _ i (by omega), layRow_get l t S i h]
theorem layWays_get : ∀ (l : List Rx) (t : Nat) (S : List St) (i : Nat), i < S.length → (layWays l t S).1[i]? = S[i]?
  | [], t, S, i, h => by simp [layWays]
  | x :: l, t, S, i, h => by
    have h1 := (lay_len x t S).1
    simp only [layWays]
    rw [layWays_get l t _ i (by omega), lay_get x t S i h]
end
end Rx
end Go.Proofs.YtmlmnckhiianhaaDoor
