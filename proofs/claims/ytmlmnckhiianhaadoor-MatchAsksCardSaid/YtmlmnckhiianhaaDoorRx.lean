/- The plain regular expressions: what a pattern's text means, read from the left; no Go in sight. -/
namespace Go.Proofs.YtmlmnckhiianhaaDoor

inductive Rx where
  | byte (p : Nat → Bool)
  | row (l : List Rx)
  | either (l : List Rx)
  | star (r : Rx)
  | plus (r : Rx)
  | maybe (r : Rx)
  deriving Inhabited

namespace Rx
/-- A byte of a class, at i. -/
def pOne (t : List Nat) (i : Nat) : Except Nat (Nat × Nat) :=
  let j := if t[i]? = some 92 then i + 1 else i
  match t[j]? with
  | none => .error 27
  | some c => .ok (c, j + 1)
/-- An item of a class, at i: its bounds, and what stands behind. -/
def pItem (t : List Nat) (i : Nat) : Except Nat ((Nat × Nat) × Nat) :=
  match pOne t i with
  | .error e => .error e
  | .ok (low, j) =>
    if t[j]? = some 45 then
      match pOne t (j + 1) with
      | .error e => .error e
      | .ok (high, k) => if high < low then .error 27 else .ok ((low, high), k)
    else .ok ((low, low), j)
/-- Items, one at least. -/
def pItems (t : List Nat) : Nat → Nat → (Nat → Bool) → Except Nat ((Nat → Bool) × Nat)
  | 0, _, _ => .error 27
  | f + 1, i, P =>
    match pItem t i with
    | .error e => .error e
    | .ok ((low, high), j) =>
      let Q : Nat → Bool := fun c => P c || (decide (low ≤ c) && decide (c ≤ high))
      if t[j]? = some 93 then .ok (Q, j + 1) else pItems t f j Q
def clsOf (neg : Bool) : Except Nat ((Nat → Bool) × Nat) → Except Nat (Rx × Nat)
  | .error e => .error e
  | .ok (P, j) => .ok (.byte (if neg = true then (fun c => !P c) else P), j)
/-- A class, behind its bracket. -/
def pClass (t : List Nat) (i : Nat) : Except Nat (Rx × Nat) :=
  if t[i]? = some 94 then clsOf true (pItems t (t.length + 1) (i + 1) (fun _ => false))
  else clsOf false (pItems t (t.length + 1) i (fun _ => false))
/-- A part. -/
def pPart (rec : Nat → Except Nat (Rx × Nat)) (t : List Nat) (i : Nat) : Except Nat (Rx × Nat) :=
  match t[i]? with
  | none => .error 27
  | some c =>
    if c = 40 then
      match rec (i + 1) with
      | .error e => .error e
      | .ok (x, j) => if t[j]? = some 41 then .ok (x, j + 1) else .error 27
    else if c = 91 then pClass t (i + 1)
    else if c = 42 ∨ c = 43 ∨ c = 63 ∨ c = 93 ∨ c = 123 ∨ c = 125 ∨ c = 94 ∨ c = 36 then .error 27
    else if c = 46 then .ok (.byte (fun _ => true), i + 1)
    else if c = 92 then
      match t[i + 1]? with
      | none => .error 27
      | some d => .ok (.byte (fun x => x == d), i + 2)
    else .ok (.byte (fun x => x == c), i + 1)
/-- How often: a sign behind a part. -/
def sign (c : Option Nat) (x : Rx) : Option Rx :=
  if c = some 42 then some (.star x) else if c = some 43 then some (.plus x) else if c = some 63 then some (.maybe x) else none
def pSigns (t : List Nat) : Nat → Nat → Rx → Rx × Nat
  | 0, i, x => (x, i)
  | f + 1, i, x => match sign t[i]? x with
    | some y => pSigns t f (i + 1) y
    | none => (x, i)
def pTimes (rec : Nat → Except Nat (Rx × Nat)) (t : List Nat) (i : Nat) : Except Nat (Rx × Nat) :=
  match pPart rec t i with
  | .error e => .error e
  | .ok (x, j) => .ok (pSigns t (t.length + 1) j x)
/-- Parts that follow each other; l: what was read, the last one first. -/
def pParts (rec : Nat → Except Nat (Rx × Nat)) (t : List Nat) : Nat → Nat → List Rx → Except Nat (List Rx × Nat)
  | 0, i, l => .ok (l, i)
  | f + 1, i, l =>
    if i < t.length ∧ t[i]? ≠ some 124 ∧ t[i]? ≠ some 41 then
      match pTimes rec t i with
      | .error e => .error e
      | .ok (x, j) => pParts rec t f j (l ++ [x])
    else .ok (l, i)
def pRow (rec : Nat → Except Nat (Rx × Nat)) (t : List Nat) (i : Nat) : Except Nat (Rx × Nat) :=
  match pParts rec t (t.length + 1) i [] with
  | .error e => .error e
  | .ok (l, j) => .ok (.row l, j)
def pBars (rec : Nat → Except Nat (Rx × Nat)) (t : List Nat) : Nat → Nat → List Rx → Except Nat (List Rx × Nat)
  | 0, i, l => .ok (l, i)
  | f + 1, i, l =>
    if t[i]? = some 124 then
      match pRow rec t (i + 1) with
      | .error e => .error e
      | .ok (x, j) => pBars rec t f j (l ++ [x])
    else .ok (l, i)
/-- A pattern, n levels deep at most. -/
def pPat (t : List Nat) : Nat → Nat → Except Nat (Rx × Nat)
  | 0, _ => .error 9
  | n + 1, i =>
    match pRow (pPat t n) t i with
    | .error e => .error e
    | .ok (x, j) =>
      match pBars (pPat t n) t (t.length + 1) j [x] with
      | .error e => .error e
      | .ok (l, k) => .ok (.either l, k)
/-- A whole text as a pattern. -/
def parse (t : List Nat) : Except Nat Rx :=
  if t.length > 64 then .error 9
  else match pPat t 8 0 with
    | .error e => .error e
    | .ok (x, j) => if j < t.length then .error 27 else .ok x
end Rx

end Go.Proofs.YtmlmnckhiianhaaDoor
