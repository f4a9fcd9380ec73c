/-
  DERIVED. GIVEN WITH THE SEED: THE CARDS: each row of YtnhbgjgfneoajaaDoorRows.lean that lists a variable, with what it lists TIED to the program's text (the seventh form; the later family's looks); each row that meets fmt, with fmt's text TOLD by the authors' own Lean function (tested against real Go, not proved from fmt's source: count such statements apart). THE CARD IS WHAT COUNTS. Prove the row's statement (the work); the ties are given (YtnhbgjgfneoajaaDoorTie.lean); close each card by the builder's one call (the guide's Derived/Test/ToyasCard.lean, 'card_holds'). Laid BY PROGRAM, IN A SANDBOX (cutbox-door.mjs). By AI agents, Wed Nov 11 2026. No macro, syntax, notation, axiom, sorry.
-/
import Derived.Test.YtnhbgjgfneoajaaDoorRows
import GoSem.ClaimSeven
namespace Go.Proofs.YtnhbgjgfneoajaaDoor
namespace Rows

/-- THE TIED CARD OF 'sederuntlaw36.BallotLeader'. -/
def ballotLeaderCard : Claim7 := { stood := { row := ballotLeaderRow, standIns := [], harness := (true, "b20c2e075f4e133df883394281e1f614952e38fb2d3e53e161d2ba6f9371aac9"), looks := false }, kinds := [], alts := [], laidByText := true, laidKinds := [.data, .data, .data], laidTests := true, laidLooks := .later }
def BallotLeaderCardSaid : Prop := Claim7.holds Tryd.pinned (.plain (OpenSpec.ofChange ballotLeaderSpec)) ballotLeaderCard

/-- THE TIED CARD OF 'sederuntlaw36.BallotTurns'. -/
def ballotTurnsCard : Claim7 := { stood := { row := ballotTurnsRow, standIns := [], harness := (true, "b20c2e075f4e133df883394281e1f614952e38fb2d3e53e161d2ba6f9371aac9"), looks := false }, kinds := [], alts := [], laidByText := true, laidKinds := [.data, .data, .data], laidTests := true, laidLooks := .later }
def BallotTurnsCardSaid : Prop := Claim7.holds Tryd.pinned (.plain (OpenSpec.ofChange ballotTurnsSpec)) ballotTurnsCard

/-- THE TIED CARD OF 'sederuntlaw36.BallotHighest'. -/
def ballotHighestCard : Claim7 := { stood := { row := ballotHighestRow, standIns := [], harness := (true, "b20c2e075f4e133df883394281e1f614952e38fb2d3e53e161d2ba6f9371aac9"), looks := false }, kinds := [], alts := [], laidByText := true, laidKinds := [.data, .data, .data], laidTests := true, laidLooks := .later }
def BallotHighestCardSaid : Prop := Claim7.holds Tryd.pinned (.plain (OpenSpec.ofChange ballotHighestSpec)) ballotHighestCard

/-- THE SECOND FORM's CARD OF 'sederuntlaw36.BallotLeader'. -/
def ballotLeaderUptoCard : Claim7 := { stood := { row := ballotLeaderUptoRow, standIns := [], harness := (true, "b20c2e075f4e133df883394281e1f614952e38fb2d3e53e161d2ba6f9371aac9"), looks := false }, kinds := [], alts := [], laidByText := true, laidKinds := [.data, .data, .data], laidTests := true, laidLooks := .later }
def BallotLeaderUptoCardSaid : Prop := Claim7.holds Tryd.pinned (.plain (OpenSpec.upto ballotLeaderSpec)) ballotLeaderUptoCard

/-- THE SECOND FORM's CARD OF 'sederuntlaw36.BallotTurns'. -/
def ballotTurnsUptoCard : Claim7 := { stood := { row := ballotTurnsUptoRow, standIns := [], harness := (true, "b20c2e075f4e133df883394281e1f614952e38fb2d3e53e161d2ba6f9371aac9"), looks := false }, kinds := [], alts := [], laidByText := true, laidKinds := [.data, .data, .data], laidTests := true, laidLooks := .later }
def BallotTurnsUptoCardSaid : Prop := Claim7.holds Tryd.pinned (.plain (OpenSpec.upto ballotTurnsSpec)) ballotTurnsUptoCard

/-- THE SECOND FORM's CARD OF 'sederuntlaw36.BallotHighest'. -/
def ballotHighestUptoCard : Claim7 := { stood := { row := ballotHighestUptoRow, standIns := [], harness := (true, "b20c2e075f4e133df883394281e1f614952e38fb2d3e53e161d2ba6f9371aac9"), looks := false }, kinds := [], alts := [], laidByText := true, laidKinds := [.data, .data, .data], laidTests := true, laidLooks := .later }
def BallotHighestUptoCardSaid : Prop := Claim7.holds Tryd.pinned (.plain (OpenSpec.upto ballotHighestSpec)) ballotHighestUptoCard
end Rows
end Go.Proofs.YtnhbgjgfneoajaaDoor
