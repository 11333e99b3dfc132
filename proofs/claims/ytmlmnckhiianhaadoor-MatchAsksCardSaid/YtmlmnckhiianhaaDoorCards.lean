/-
  DERIVED. GIVEN WITH THE SEED: THE CARDS: each row of YtmlmnckhiianhaaDoorRows.lean that lists a variable, with what it lists TIED to the program's text (the seventh form; the later family's looks); each row that meets fmt, with fmt's text TOLD by the authors' own Lean function (tested against real Go, not proved from fmt's source: count such statements apart). THE CARD IS WHAT COUNTS. Prove the row's statement (the work); the ties are given (YtmlmnckhiianhaaDoorTie.lean); close each card by the builder's one call (the guide's Derived/Test/ToyasCard.lean, 'card_holds'). Laid BY PROGRAM, IN A SANDBOX (cutbox-door.mjs). By AI agents, Wed Nov 11 2026. No macro, syntax, notation, axiom, sorry.
-/
import Derived.Test.YtmlmnckhiianhaaDoorRows
import GoSem.ClaimSeven
namespace Go.Proofs.YtmlmnckhiianhaaDoor
namespace Rows

/-- THE TIED CARD OF 'pluviallaw12.MatchTurns'. -/
def matchTurnsCard : Claim7 := { stood := { row := matchTurnsRow, standIns := [], harness := (true, "214b4b4acd956c4b01996da52bb8332109a1eff8baed762bf7d8c4e83a4d5012"), looks := false }, kinds := [], alts := [], laidByText := true, laidKinds := [.data], laidTests := true, laidLooks := .later }
def MatchTurnsCardSaid : Prop := Claim7.holds Tryd.pinned (.plain (OpenSpec.ofChange matchTurnsSpec)) matchTurnsCard

/-- THE TIED CARD OF 'pluviallaw12.MatchNarrows'. -/
def matchNarrowsCard : Claim7 := { stood := { row := matchNarrowsRow, standIns := [], harness := (true, "214b4b4acd956c4b01996da52bb8332109a1eff8baed762bf7d8c4e83a4d5012"), looks := false }, kinds := [], alts := [], laidByText := true, laidKinds := [.data], laidTests := true, laidLooks := .later }
def MatchNarrowsCardSaid : Prop := Claim7.holds Tryd.pinned (.plain (OpenSpec.ofChange matchNarrowsSpec)) matchNarrowsCard

/-- THE TIED CARD OF 'pluviallaw12.MatchMissing'. -/
def matchMissingCard : Claim7 := { stood := { row := matchMissingRow, standIns := [], harness := (true, "214b4b4acd956c4b01996da52bb8332109a1eff8baed762bf7d8c4e83a4d5012"), looks := false }, kinds := [], alts := [], laidByText := true, laidKinds := [.data], laidTests := true, laidLooks := .later }
def MatchMissingCardSaid : Prop := Claim7.holds Tryd.pinned (.plain (OpenSpec.ofChange matchMissingSpec)) matchMissingCard

/-- THE TIED CARD OF 'pluviallaw12.MatchReads'. -/
def matchReadsCard : Claim7 := { stood := { row := matchReadsRow, standIns := [], harness := (true, "214b4b4acd956c4b01996da52bb8332109a1eff8baed762bf7d8c4e83a4d5012"), looks := false }, kinds := [], alts := [], laidByText := true, laidKinds := [.data], laidTests := true, laidLooks := .later }
def MatchReadsCardSaid : Prop := Claim7.holds Tryd.pinned (.plain (OpenSpec.ofChange matchReadsSpec)) matchReadsCard

/-- THE TIED CARD OF 'pluviallaw12.MatchAsks'. -/
def matchAsksCard : Claim7 := { stood := { row := matchAsksRow, standIns := [], harness := (true, "214b4b4acd956c4b01996da52bb8332109a1eff8baed762bf7d8c4e83a4d5012"), looks := false }, kinds := [], alts := [], laidByText := true, laidKinds := [.data], laidTests := true, laidLooks := .later }
def MatchAsksCardSaid : Prop := Claim7.holds Tryd.pinned (.plain (OpenSpec.ofChange matchAsksSpec)) matchAsksCard

/-- THE SECOND FORM's CARD OF 'pluviallaw12.MatchTurns'. -/
def matchTurnsUptoCard : Claim7 := { stood := { row := matchTurnsUptoRow, standIns := [], harness := (true, "214b4b4acd956c4b01996da52bb8332109a1eff8baed762bf7d8c4e83a4d5012"), looks := false }, kinds := [], alts := [], laidByText := true, laidKinds := [.data], laidTests := true, laidLooks := .later }
def MatchTurnsUptoCardSaid : Prop := Claim7.holds Tryd.pinned (.plain (OpenSpec.upto matchTurnsSpec)) matchTurnsUptoCard

/-- THE SECOND FORM's CARD OF 'pluviallaw12.MatchNarrows'. -/
def matchNarrowsUptoCard : Claim7 := { stood := { row := matchNarrowsUptoRow, standIns := [], harness := (true, "214b4b4acd956c4b01996da52bb8332109a1eff8baed762bf7d8c4e83a4d5012"), looks := false }, kinds := [], alts := [], laidByText := true, laidKinds := [.data], laidTests := true, laidLooks := .later }
def MatchNarrowsUptoCardSaid : Prop := Claim7.holds Tryd.pinned (.plain (OpenSpec.upto matchNarrowsSpec)) matchNarrowsUptoCard

/-- THE SECOND FORM's CARD OF 'pluviallaw12.MatchMissing'. -/
def matchMissingUptoCard : Claim7 := { stood := { row := matchMissingUptoRow, standIns := [], harness := (true, "214b4b4acd956c4b01996da52bb8332109a1eff8baed762bf7d8c4e83a4d5012"), looks := false }, kinds := [], alts := [], laidByText := true, laidKinds := [.data], laidTests := true, laidLooks := .later }
def MatchMissingUptoCardSaid : Prop := Claim7.holds Tryd.pinned (.plain (OpenSpec.upto matchMissingSpec)) matchMissingUptoCard

/-- THE SECOND FORM's CARD OF 'pluviallaw12.MatchReads'. -/
def matchReadsUptoCard : Claim7 := { stood := { row := matchReadsUptoRow, standIns := [], harness := (true, "214b4b4acd956c4b01996da52bb8332109a1eff8baed762bf7d8c4e83a4d5012"), looks := false }, kinds := [], alts := [], laidByText := true, laidKinds := [.data], laidTests := true, laidLooks := .later }
def MatchReadsUptoCardSaid : Prop := Claim7.holds Tryd.pinned (.plain (OpenSpec.upto matchReadsSpec)) matchReadsUptoCard

/-- THE SECOND FORM's CARD OF 'pluviallaw12.MatchAsks'. -/
def matchAsksUptoCard : Claim7 := { stood := { row := matchAsksUptoRow, standIns := [], harness := (true, "214b4b4acd956c4b01996da52bb8332109a1eff8baed762bf7d8c4e83a4d5012"), looks := false }, kinds := [], alts := [], laidByText := true, laidKinds := [.data], laidTests := true, laidLooks := .later }
def MatchAsksUptoCardSaid : Prop := Claim7.holds Tryd.pinned (.plain (OpenSpec.upto matchAsksSpec)) matchAsksUptoCard
end Rows
end Go.Proofs.YtmlmnckhiianhaaDoor
