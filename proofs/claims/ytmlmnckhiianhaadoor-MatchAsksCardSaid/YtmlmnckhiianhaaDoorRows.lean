/-
  NARROWER THAN 'FOR EVERY INPUT', by the rows' own cells (each row's printed sentence says how): MatchTurns: laid · MatchNarrows: laid · MatchMissing: laid · MatchReads: laid · MatchAsks: laid.
  DERIVED. THE GIVEN ROWS OF THIS SEAT. 5 by the template 'for every input the law returns true; each argument reads behind the call as it read before'; 0 by the template 'total and deterministic' (their statements: YtmlmnckhiianhaaDoorTotals.lean).
  GIVEN WITH THE SEED: the statements are not yours to turn. If you find one false, say at which input.
  Laid BY PROGRAM, IN A SANDBOX (cutbox-rows.mjs): the forced cells as the released guide's own fill.sh prints them over the translation 7d7fb845daca8aa3… (all of the seat's roots in one cut). By AI agents, Wed Nov 11 2026. No macro, syntax, notation, axiom, sorry.
-/
import Derived.Test.YtmlmnckhiianhaaDoorChecked
import GoSem.Claim
import GoSem.ClaimJoined
import GoSem.ClaimMapViews
import Derived.JoinedTies
import Derived.KernelRfl
namespace Go.Proofs.YtmlmnckhiianhaaDoor
/- THE CELL 'sum', in the pinned program and in every row, IS THE sha256 OF THE DUMP (.gsa) THAT YtmlmnckhiianhaaDoorProg.lean LOADS. Nothing in Lean hashes anything: it is a label: what it is worth is what the hold of that sum in a sandbox is worth. -/
noncomputable def Tryd.pinned : Pinned := { name := "ytmlmnckhiianhaadoor", sum := "7d7fb845daca8aa31752b509c95f0b9fa21e338078d18784eb11324ab702c07c", checked := Tryd.checked }
namespace Rows
def none {H : Type} : Left H := { results := [], args := [] }

/- WHAT THE LISTED PACKAGE-LEVEL VARIABLES READ AS WHEN THE CALL BEGINS. Each datum BY PROGRAM (the guide's laid-datum.mjs) off the statement by which the dump's own 'gosem.cut.vars' lays the variable. In a bare row this is a premise. The card (YtmlmnckhiianhaaDoorCards.lean) ties it to the program's text. -/
def laid_pluvial_match_ops {H : Type} : DataW H := .agg [.lit (.string [61]), .lit (.string [33, 61]), .lit (.string [61, 126]), .lit (.string [33, 126])]

/-- 'pluviallaw12.MatchTurns': WHATEVER THE INPUT: true; the input reads as it did. -/
def matchTurnsSpec : ChangeSpec := { name := "matchTurns", fn := fun _ => fun
  | [d1, d2, d3] => { results := [.lit (.bool true)], args := [d1, d2, d3] }
  | _ => none }
def matchTurnsRow : OpenClaim := { program := "ytmlmnckhiianhaadoor", sum := "7d7fb845daca8aa31752b509c95f0b9fa21e338078d18784eb11324ab702c07c", func := "pluvial/pluviallaw12.MatchTurns", spec := "matchTurns", inPlace := ["internal/bytealg.IndexByteString", "internal/bytealg.IndexString"], recurses := true, named := ["pluvial/match.ops", "internal/bytealg.MaxLen"], apart := false, laid := [("pluvial/match.ops", laid_pluvial_match_ops)] }
def MatchTurnsSaid : Prop := matchTurnsRow.holds Tryd.pinned (OpenSpec.ofChange matchTurnsSpec)

/-- ITS FALSE NEIGHBOUR: 'it returns false'. Refute it at one input. -/
def matchTurnsWrong : ChangeSpec := { name := "matchTurns", fn := fun _ => fun
  | [d1, d2, d3] => { results := [.lit (.bool false)], args := [d1, d2, d3] }
  | _ => none }
def MatchTurnsWrongFalsely : Prop := matchTurnsRow.holds Tryd.pinned (OpenSpec.ofChange matchTurnsWrong)

/-- 'pluviallaw12.MatchNarrows': WHATEVER THE INPUT: true; the input reads as it did. -/
def matchNarrowsSpec : ChangeSpec := { name := "matchNarrows", fn := fun _ => fun
  | [d1, d2, d3] => { results := [.lit (.bool true)], args := [d1, d2, d3] }
  | _ => none }
def matchNarrowsRow : OpenClaim := { program := "ytmlmnckhiianhaadoor", sum := "7d7fb845daca8aa31752b509c95f0b9fa21e338078d18784eb11324ab702c07c", func := "pluvial/pluviallaw12.MatchNarrows", spec := "matchNarrows", inPlace := ["internal/bytealg.IndexByteString", "internal/bytealg.IndexString"], recurses := true, named := ["pluvial/match.ops", "internal/bytealg.MaxLen"], apart := false, laid := [("pluvial/match.ops", laid_pluvial_match_ops)] }
def MatchNarrowsSaid : Prop := matchNarrowsRow.holds Tryd.pinned (OpenSpec.ofChange matchNarrowsSpec)

/-- ITS FALSE NEIGHBOUR: 'it returns false'. Refute it at one input. -/
def matchNarrowsWrong : ChangeSpec := { name := "matchNarrows", fn := fun _ => fun
  | [d1, d2, d3] => { results := [.lit (.bool false)], args := [d1, d2, d3] }
  | _ => none }
def MatchNarrowsWrongFalsely : Prop := matchNarrowsRow.holds Tryd.pinned (OpenSpec.ofChange matchNarrowsWrong)

/-- 'pluviallaw12.MatchMissing': WHATEVER THE INPUT: true; the input reads as it did. -/
def matchMissingSpec : ChangeSpec := { name := "matchMissing", fn := fun _ => fun
  | [d1, d2, d3] => { results := [.lit (.bool true)], args := [d1, d2, d3] }
  | _ => none }
def matchMissingRow : OpenClaim := { program := "ytmlmnckhiianhaadoor", sum := "7d7fb845daca8aa31752b509c95f0b9fa21e338078d18784eb11324ab702c07c", func := "pluvial/pluviallaw12.MatchMissing", spec := "matchMissing", inPlace := ["internal/bytealg.IndexByteString", "internal/bytealg.IndexString"], recurses := true, named := ["pluvial/match.ops", "internal/bytealg.MaxLen"], apart := false, laid := [("pluvial/match.ops", laid_pluvial_match_ops)] }
def MatchMissingSaid : Prop := matchMissingRow.holds Tryd.pinned (OpenSpec.ofChange matchMissingSpec)

/-- ITS FALSE NEIGHBOUR: 'it returns false'. Refute it at one input. -/
def matchMissingWrong : ChangeSpec := { name := "matchMissing", fn := fun _ => fun
  | [d1, d2, d3] => { results := [.lit (.bool false)], args := [d1, d2, d3] }
  | _ => none }
def MatchMissingWrongFalsely : Prop := matchMissingRow.holds Tryd.pinned (OpenSpec.ofChange matchMissingWrong)

/-- 'pluviallaw12.MatchReads': WHATEVER THE INPUT: true; the input reads as it did. -/
def matchReadsSpec : ChangeSpec := { name := "matchReads", fn := fun _ => fun
  | [d] => { results := [.lit (.bool true)], args := [d] }
  | _ => none }
def matchReadsRow : OpenClaim := { program := "ytmlmnckhiianhaadoor", sum := "7d7fb845daca8aa31752b509c95f0b9fa21e338078d18784eb11324ab702c07c", func := "pluvial/pluviallaw12.MatchReads", spec := "matchReads", inPlace := ["internal/bytealg.IndexByteString", "internal/bytealg.IndexString"], recurses := true, named := ["pluvial/match.ops", "internal/bytealg.MaxLen"], apart := false, laid := [("pluvial/match.ops", laid_pluvial_match_ops)] }
def MatchReadsSaid : Prop := matchReadsRow.holds Tryd.pinned (OpenSpec.ofChange matchReadsSpec)

/-- ITS FALSE NEIGHBOUR: 'it returns false'. Refute it at one input. -/
def matchReadsWrong : ChangeSpec := { name := "matchReads", fn := fun _ => fun
  | [d] => { results := [.lit (.bool false)], args := [d] }
  | _ => none }
def MatchReadsWrongFalsely : Prop := matchReadsRow.holds Tryd.pinned (OpenSpec.ofChange matchReadsWrong)

/-- 'pluviallaw12.MatchAsks': WHATEVER THE INPUT: true; the input reads as it did. -/
def matchAsksSpec : ChangeSpec := { name := "matchAsks", fn := fun _ => fun
  | [d1, d2] => { results := [.lit (.bool true)], args := [d1, d2] }
  | _ => none }
def matchAsksRow : OpenClaim := { program := "ytmlmnckhiianhaadoor", sum := "7d7fb845daca8aa31752b509c95f0b9fa21e338078d18784eb11324ab702c07c", func := "pluvial/pluviallaw12.MatchAsks", spec := "matchAsks", inPlace := ["internal/bytealg.IndexByteString", "internal/bytealg.IndexString", "internal/abi.NoEscape", "internal/bytealg.MakeNoZero"], recurses := true, named := ["pluvial/match.ops", "internal/bytealg.MaxLen"], apart := false, laid := [("pluvial/match.ops", laid_pluvial_match_ops)] }
def MatchAsksSaid : Prop := matchAsksRow.holds Tryd.pinned (OpenSpec.ofChange matchAsksSpec)

/-- ITS FALSE NEIGHBOUR: 'it returns false'. Refute it at one input. -/
def matchAsksWrong : ChangeSpec := { name := "matchAsks", fn := fun _ => fun
  | [d1, d2] => { results := [.lit (.bool false)], args := [d1, d2] }
  | _ => none }
def MatchAsksWrongFalsely : Prop := matchAsksRow.holds Tryd.pinned (OpenSpec.ofChange matchAsksWrong)

/- THE SECOND FORM. 'bulk': how many values and letters a reading holds, each counted each time it is reached (what is shared counts as often as it is met; a slice's spare places count too). A statement '..UptoSaid' is the law's where the arguments, and the package variables that the reading takes, are together of bulk at most 1048576: NARROWER than '..Said'. Prove '..Said' where nothing that the law and all that it calls make is longer than what came in: it says more and counts as full. Else prove '..UptoSaid'. A law counts once. -/
mutual
def uptoBulk {H : Type} : DataW H → Nat
  | .lit (.string bytes) => bytes.length + 1
  | .lit _ => 1
  | .nil => 1
  | .ptr d => uptoBulk d + 1
  | .slice elems spare => uptoBulkAll elems + uptoBulkAll spare + 1
  | .agg parts => uptoBulkAll parts + 1
  | .iface _ d => uptoBulk d + 1
  | .map entries => uptoBulkEntries entries + 1
  | .held _ => 1
def uptoBulkAll {H : Type} : List (DataW H) → Nat
  | [] => 0
  | d :: r => uptoBulk d + uptoBulkAll r
def uptoBulkEntries {H : Type} : List (Lit × DataW H) → Nat
  | [] => 0
  | x :: r => uptoBulkEntry x + uptoBulkEntries r
def uptoBulkEntry {H : Type} : Lit × DataW H → Nat
  | (.string bytes, d) => bytes.length + uptoBulk d + 1
  | (_, d) => uptoBulk d + 1
 end
def uptoSmall : (H : Type) → List (DataW H) → Bool := fun _ ds => decide (uptoBulkAll ds ≤ 1048576)
def OpenSpec.upto (s : _root_.Go.ChangeSpec) : _root_.Go.OpenSpec := { _root_.Go.OpenSpec.ofChange s with cond := some uptoSmall }

/-- 'pluviallaw12.MatchTurns', WHERE WHAT IT READS IS OF BULK AT MOST 1048576: true; the input reads as it did. -/
def matchTurnsUptoRow : OpenClaim := { program := "ytmlmnckhiianhaadoor", sum := "7d7fb845daca8aa31752b509c95f0b9fa21e338078d18784eb11324ab702c07c", func := "pluvial/pluviallaw12.MatchTurns", spec := "matchTurns", inPlace := ["internal/bytealg.IndexByteString", "internal/bytealg.IndexString"], recurses := true, named := ["pluvial/match.ops", "internal/bytealg.MaxLen"], apart := false, laid := [("pluvial/match.ops", laid_pluvial_match_ops)], narrowed := true }
def MatchTurnsUptoSaid : Prop := matchTurnsUptoRow.holds Tryd.pinned (OpenSpec.upto matchTurnsSpec)

/-- 'pluviallaw12.MatchNarrows', WHERE WHAT IT READS IS OF BULK AT MOST 1048576: true; the input reads as it did. -/
def matchNarrowsUptoRow : OpenClaim := { program := "ytmlmnckhiianhaadoor", sum := "7d7fb845daca8aa31752b509c95f0b9fa21e338078d18784eb11324ab702c07c", func := "pluvial/pluviallaw12.MatchNarrows", spec := "matchNarrows", inPlace := ["internal/bytealg.IndexByteString", "internal/bytealg.IndexString"], recurses := true, named := ["pluvial/match.ops", "internal/bytealg.MaxLen"], apart := false, laid := [("pluvial/match.ops", laid_pluvial_match_ops)], narrowed := true }
def MatchNarrowsUptoSaid : Prop := matchNarrowsUptoRow.holds Tryd.pinned (OpenSpec.upto matchNarrowsSpec)

/-- 'pluviallaw12.MatchMissing', WHERE WHAT IT READS IS OF BULK AT MOST 1048576: true; the input reads as it did. -/
def matchMissingUptoRow : OpenClaim := { program := "ytmlmnckhiianhaadoor", sum := "7d7fb845daca8aa31752b509c95f0b9fa21e338078d18784eb11324ab702c07c", func := "pluvial/pluviallaw12.MatchMissing", spec := "matchMissing", inPlace := ["internal/bytealg.IndexByteString", "internal/bytealg.IndexString"], recurses := true, named := ["pluvial/match.ops", "internal/bytealg.MaxLen"], apart := false, laid := [("pluvial/match.ops", laid_pluvial_match_ops)], narrowed := true }
def MatchMissingUptoSaid : Prop := matchMissingUptoRow.holds Tryd.pinned (OpenSpec.upto matchMissingSpec)

/-- 'pluviallaw12.MatchReads', WHERE WHAT IT READS IS OF BULK AT MOST 1048576: true; the input reads as it did. -/
def matchReadsUptoRow : OpenClaim := { program := "ytmlmnckhiianhaadoor", sum := "7d7fb845daca8aa31752b509c95f0b9fa21e338078d18784eb11324ab702c07c", func := "pluvial/pluviallaw12.MatchReads", spec := "matchReads", inPlace := ["internal/bytealg.IndexByteString", "internal/bytealg.IndexString"], recurses := true, named := ["pluvial/match.ops", "internal/bytealg.MaxLen"], apart := false, laid := [("pluvial/match.ops", laid_pluvial_match_ops)], narrowed := true }
def MatchReadsUptoSaid : Prop := matchReadsUptoRow.holds Tryd.pinned (OpenSpec.upto matchReadsSpec)

/-- 'pluviallaw12.MatchAsks', WHERE WHAT IT READS IS OF BULK AT MOST 1048576: true; the input reads as it did. -/
def matchAsksUptoRow : OpenClaim := { program := "ytmlmnckhiianhaadoor", sum := "7d7fb845daca8aa31752b509c95f0b9fa21e338078d18784eb11324ab702c07c", func := "pluvial/pluviallaw12.MatchAsks", spec := "matchAsks", inPlace := ["internal/bytealg.IndexByteString", "internal/bytealg.IndexString", "internal/abi.NoEscape", "internal/bytealg.MakeNoZero"], recurses := true, named := ["pluvial/match.ops", "internal/bytealg.MaxLen"], apart := false, laid := [("pluvial/match.ops", laid_pluvial_match_ops)], narrowed := true }
def MatchAsksUptoSaid : Prop := matchAsksUptoRow.holds Tryd.pinned (OpenSpec.upto matchAsksSpec)

end Rows
end Go.Proofs.YtmlmnckhiianhaaDoor
