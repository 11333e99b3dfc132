/-
  No cell of these rows narrows 'for every input' (looked for: loops, veiled, ifaces, maps, wideKeys, modest, calm, conditions, laid).
  DERIVED. THE GIVEN ROWS OF THIS SEAT. 5 by the template 'for every input the law returns true; each argument reads behind the call as it read before'; 0 by the template 'total and deterministic' (their statements: YtaaonhaighdlaaaTotals.lean).
  GIVEN WITH THE SEED: the statements are not yours to turn. If you find one false, say at which input.
  Laid BY PROGRAM, IN A SANDBOX (cutbox-rows.mjs): the forced cells as the released guide's own fill.sh prints them over the translation 09e89b41538cc5d0… (all of the seat's roots in one cut). By AI agents, Wed Nov 11 2026. No macro, syntax, notation, axiom, sorry.
-/
import Derived.Test.YtaaonhaighdlaaaChecked
import GoSem.Claim
import GoSem.ClaimJoined
import GoSem.ClaimMapViews
import Derived.JoinedTies
import Derived.KernelRfl
namespace Go.Proofs.Ytaaonhaighdlaaa
/- THE CELL 'sum', in the pinned program and in every row, IS THE sha256 OF THE DUMP (.gsa) THAT YtaaonhaighdlaaaProg.lean LOADS. Nothing in Lean hashes anything: it is a label: what it is worth is what the hold of that sum in a sandbox is worth. -/
noncomputable def Try.pinned : Pinned := { name := "ytaaonhaighdlaaa", sum := "09e89b41538cc5d0adc5e3dac1473b4fd45b14cc16efe49c4cdd006a700daae5", checked := Try.checked }
namespace Rows
def none {H : Type} : Left H := { results := [], args := [] }

/-- 'pluviallaw11.RegexRows': WHATEVER THE INPUT: true; the input reads as it did. -/
def regexRowsSpec : ChangeSpec := { name := "regexRows", fn := fun _ => fun
  | [d1, d2, d3] => { results := [.lit (.bool true)], args := [d1, d2, d3] }
  | _ => none }
def regexRowsRow : OpenClaim := { program := "ytaaonhaighdlaaa", sum := "09e89b41538cc5d0adc5e3dac1473b4fd45b14cc16efe49c4cdd006a700daae5", func := "pluvial/pluviallaw11.RegexRows", spec := "regexRows", recurses := true, apart := false }
def RegexRowsSaid : Prop := regexRowsRow.holds Try.pinned (OpenSpec.ofChange regexRowsSpec)

/-- ITS FALSE NEIGHBOUR: 'it returns false'. Refute it at one input. -/
def regexRowsWrong : ChangeSpec := { name := "regexRows", fn := fun _ => fun
  | [d1, d2, d3] => { results := [.lit (.bool false)], args := [d1, d2, d3] }
  | _ => none }
def RegexRowsWrongFalsely : Prop := regexRowsRow.holds Try.pinned (OpenSpec.ofChange regexRowsWrong)

/-- 'pluviallaw11.RegexStars': WHATEVER THE INPUT: true; the input reads as it did. -/
def regexStarsSpec : ChangeSpec := { name := "regexStars", fn := fun _ => fun
  | [d1, d2] => { results := [.lit (.bool true)], args := [d1, d2] }
  | _ => none }
def regexStarsRow : OpenClaim := { program := "ytaaonhaighdlaaa", sum := "09e89b41538cc5d0adc5e3dac1473b4fd45b14cc16efe49c4cdd006a700daae5", func := "pluvial/pluviallaw11.RegexStars", spec := "regexStars", unfollowed := true, recurses := true, apart := false }
def RegexStarsSaid : Prop := regexStarsRow.holds Try.pinned (OpenSpec.ofChange regexStarsSpec)

/-- ITS FALSE NEIGHBOUR: 'it returns false'. Refute it at one input. -/
def regexStarsWrong : ChangeSpec := { name := "regexStars", fn := fun _ => fun
  | [d1, d2] => { results := [.lit (.bool false)], args := [d1, d2] }
  | _ => none }
def RegexStarsWrongFalsely : Prop := regexStarsRow.holds Try.pinned (OpenSpec.ofChange regexStarsWrong)

/-- 'pluviallaw11.RegexClasses': WHATEVER THE INPUT: true; the input reads as it did. -/
def regexClassesSpec : ChangeSpec := { name := "regexClasses", fn := fun _ => fun
  | [d1, d2, d3, d4] => { results := [.lit (.bool true)], args := [d1, d2, d3, d4] }
  | _ => none }
def regexClassesRow : OpenClaim := { program := "ytaaonhaighdlaaa", sum := "09e89b41538cc5d0adc5e3dac1473b4fd45b14cc16efe49c4cdd006a700daae5", func := "pluvial/pluviallaw11.RegexClasses", spec := "regexClasses", unfollowed := true, recurses := true, apart := false }
def RegexClassesSaid : Prop := regexClassesRow.holds Try.pinned (OpenSpec.ofChange regexClassesSpec)

/-- ITS FALSE NEIGHBOUR: 'it returns false'. Refute it at one input. -/
def regexClassesWrong : ChangeSpec := { name := "regexClasses", fn := fun _ => fun
  | [d1, d2, d3, d4] => { results := [.lit (.bool false)], args := [d1, d2, d3, d4] }
  | _ => none }
def RegexClassesWrongFalsely : Prop := regexClassesRow.holds Try.pinned (OpenSpec.ofChange regexClassesWrong)

/-- 'pluviallaw11.RegexPlain': WHATEVER THE INPUT: true; the input reads as it did. -/
def regexPlainSpec : ChangeSpec := { name := "regexPlain", fn := fun _ => fun
  | [d1, d2] => { results := [.lit (.bool true)], args := [d1, d2] }
  | _ => none }
def regexPlainRow : OpenClaim := { program := "ytaaonhaighdlaaa", sum := "09e89b41538cc5d0adc5e3dac1473b4fd45b14cc16efe49c4cdd006a700daae5", func := "pluvial/pluviallaw11.RegexPlain", spec := "regexPlain", inPlace := ["internal/bytealg.IndexByteString", "internal/bytealg.IndexString"], recurses := true, named := ["internal/bytealg.MaxLen"], apart := false }
def RegexPlainSaid : Prop := regexPlainRow.holds Try.pinned (OpenSpec.ofChange regexPlainSpec)

/-- ITS FALSE NEIGHBOUR: 'it returns false'. Refute it at one input. -/
def regexPlainWrong : ChangeSpec := { name := "regexPlain", fn := fun _ => fun
  | [d1, d2] => { results := [.lit (.bool false)], args := [d1, d2] }
  | _ => none }
def RegexPlainWrongFalsely : Prop := regexPlainRow.holds Try.pinned (OpenSpec.ofChange regexPlainWrong)

/-- 'pluviallaw11.RegexMatches': WHATEVER THE INPUT: true; the input reads as it did. -/
def regexMatchesSpec : ChangeSpec := { name := "regexMatches", fn := fun _ => fun
  | [d1, d2, d3] => { results := [.lit (.bool true)], args := [d1, d2, d3] }
  | _ => none }
def regexMatchesRow : OpenClaim := { program := "ytaaonhaighdlaaa", sum := "09e89b41538cc5d0adc5e3dac1473b4fd45b14cc16efe49c4cdd006a700daae5", func := "pluvial/pluviallaw11.RegexMatches", spec := "regexMatches", inPlace := ["internal/bytealg.CountString", "internal/bytealg.IndexByteString", "internal/bytealg.IndexString"], recurses := true, named := ["internal/bytealg.MaxLen"], apart := false }
def RegexMatchesSaid : Prop := regexMatchesRow.holds Try.pinned (OpenSpec.ofChange regexMatchesSpec)

/-- ITS FALSE NEIGHBOUR: 'it returns false'. Refute it at one input. -/
def regexMatchesWrong : ChangeSpec := { name := "regexMatches", fn := fun _ => fun
  | [d1, d2, d3] => { results := [.lit (.bool false)], args := [d1, d2, d3] }
  | _ => none }
def RegexMatchesWrongFalsely : Prop := regexMatchesRow.holds Try.pinned (OpenSpec.ofChange regexMatchesWrong)

/- THE SECOND FORM. 'bulk': how many values and letters a reading holds, each counted each time it is reached (what is shared counts as often as it is met; a slice's spare places count too). A statement '..UptoSaid' is the law's where the arguments, and the package variables that the reading takes, are together of bulk at most 1048576: NARROWER than '..Said'. Prove '..Said' where nothing that the law and all that it calls make is longer than what came in: it says more and counts as full. Else prove '..UptoSaid'. A law counts once. -/
mutual
def uptoBulk {H : Type} : DataW H → Nat
  | .lit (.string bytes) => bytes.length + 1
  | .lit _ => 1
  | .nil => 1
  | .ptr d => uptoBulk d + 1
  | .slice elems spare => uptoBulkAll elems + uptoBulkAll spare + 1
  | .agg parts => uptoBulkAll parts + 1
  | .iface _ d => uptoBulk d + 1
  | .map entries => uptoBulkEntries entries + 1
  | .held _ => 1
def uptoBulkAll {H : Type} : List (DataW H) → Nat
  | [] => 0
  | d :: r => uptoBulk d + uptoBulkAll r
def uptoBulkEntries {H : Type} : List (Lit × DataW H) → Nat
  | [] => 0
  | x :: r => uptoBulkEntry x + uptoBulkEntries r
def uptoBulkEntry {H : Type} : Lit × DataW H → Nat
  | (.string bytes, d) => bytes.length + uptoBulk d + 1
  | (_, d) => uptoBulk d + 1
 end
def uptoSmall : (H : Type) → List (DataW H) → Bool := fun _ ds => decide (uptoBulkAll ds ≤ 1048576)
def OpenSpec.upto (s : _root_.Go.ChangeSpec) : _root_.Go.OpenSpec := { _root_.Go.OpenSpec.ofChange s with cond := some uptoSmall }

/-- 'pluviallaw11.RegexRows', WHERE WHAT IT READS IS OF BULK AT MOST 1048576: true; the input reads as it did. -/
def regexRowsUptoRow : OpenClaim := { program := "ytaaonhaighdlaaa", sum := "09e89b41538cc5d0adc5e3dac1473b4fd45b14cc16efe49c4cdd006a700daae5", func := "pluvial/pluviallaw11.RegexRows", spec := "regexRows", recurses := true, apart := false, narrowed := true }
def RegexRowsUptoSaid : Prop := regexRowsUptoRow.holds Try.pinned (OpenSpec.upto regexRowsSpec)

/-- 'pluviallaw11.RegexStars', WHERE WHAT IT READS IS OF BULK AT MOST 1048576: true; the input reads as it did. -/
def regexStarsUptoRow : OpenClaim := { program := "ytaaonhaighdlaaa", sum := "09e89b41538cc5d0adc5e3dac1473b4fd45b14cc16efe49c4cdd006a700daae5", func := "pluvial/pluviallaw11.RegexStars", spec := "regexStars", unfollowed := true, recurses := true, apart := false, narrowed := true }
def RegexStarsUptoSaid : Prop := regexStarsUptoRow.holds Try.pinned (OpenSpec.upto regexStarsSpec)

/-- 'pluviallaw11.RegexClasses', WHERE WHAT IT READS IS OF BULK AT MOST 1048576: true; the input reads as it did. -/
def regexClassesUptoRow : OpenClaim := { program := "ytaaonhaighdlaaa", sum := "09e89b41538cc5d0adc5e3dac1473b4fd45b14cc16efe49c4cdd006a700daae5", func := "pluvial/pluviallaw11.RegexClasses", spec := "regexClasses", unfollowed := true, recurses := true, apart := false, narrowed := true }
def RegexClassesUptoSaid : Prop := regexClassesUptoRow.holds Try.pinned (OpenSpec.upto regexClassesSpec)

/-- 'pluviallaw11.RegexPlain', WHERE WHAT IT READS IS OF BULK AT MOST 1048576: true; the input reads as it did. -/
def regexPlainUptoRow : OpenClaim := { program := "ytaaonhaighdlaaa", sum := "09e89b41538cc5d0adc5e3dac1473b4fd45b14cc16efe49c4cdd006a700daae5", func := "pluvial/pluviallaw11.RegexPlain", spec := "regexPlain", inPlace := ["internal/bytealg.IndexByteString", "internal/bytealg.IndexString"], recurses := true, named := ["internal/bytealg.MaxLen"], apart := false, narrowed := true }
def RegexPlainUptoSaid : Prop := regexPlainUptoRow.holds Try.pinned (OpenSpec.upto regexPlainSpec)

/-- 'pluviallaw11.RegexMatches', WHERE WHAT IT READS IS OF BULK AT MOST 1048576: true; the input reads as it did. -/
def regexMatchesUptoRow : OpenClaim := { program := "ytaaonhaighdlaaa", sum := "09e89b41538cc5d0adc5e3dac1473b4fd45b14cc16efe49c4cdd006a700daae5", func := "pluvial/pluviallaw11.RegexMatches", spec := "regexMatches", inPlace := ["internal/bytealg.CountString", "internal/bytealg.IndexByteString", "internal/bytealg.IndexString"], recurses := true, named := ["internal/bytealg.MaxLen"], apart := false, narrowed := true }
def RegexMatchesUptoSaid : Prop := regexMatchesUptoRow.holds Try.pinned (OpenSpec.upto regexMatchesSpec)

end Rows
end Go.Proofs.Ytaaonhaighdlaaa
