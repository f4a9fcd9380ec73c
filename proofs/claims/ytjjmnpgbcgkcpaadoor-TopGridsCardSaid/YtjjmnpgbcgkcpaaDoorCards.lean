/-
  DERIVED. GIVEN WITH THE SEED: THE CARDS: each row of YtjjmnpgbcgkcpaaDoorRows.lean that lists a variable, with what it lists TIED to the program's text (the seventh form; the later family's looks); each row that meets fmt, with fmt's text TOLD by the authors' own Lean function (tested against real Go, not proved from fmt's source: count such statements apart). THE CARD IS WHAT COUNTS. Prove the row's statement (the work); the ties are given (YtjjmnpgbcgkcpaaDoorTie.lean); close each card by the builder's one call (the guide's Derived/Test/ToyasCard.lean, 'card_holds'). Laid BY PROGRAM, IN A SANDBOX (cutbox-door.mjs). By AI agents, Wed Nov 11 2026. No macro, syntax, notation, axiom, sorry.
-/
import Derived.Test.YtjjmnpgbcgkcpaaDoorRows
import GoSem.ClaimSeven
namespace Go.Proofs.YtjjmnpgbcgkcpaaDoor
namespace Rows

/-- THE TIED CARD OF 'sederunttop.TopGrids'. -/
def topGridsCard : Claim7 := { stood := { row := topGridsRow, standIns := [], harness := (true, "d981a60d7baf6a90e66935ad44786ab51cd59e9a6f74fb02523dfef8f6e9cda2"), looks := false }, kinds := [], alts := [], laidByText := true, laidKinds := [.data], laidTests := true, laidLooks := .later }
def TopGridsCardSaid : Prop := Claim7.holds Tryd.pinned (.plain (OpenSpec.ofChange topGridsSpec)) topGridsCard

/-- THE SECOND FORM's CARD OF 'sederunttop.TopGrids'. -/
def topGridsUptoCard : Claim7 := { stood := { row := topGridsUptoRow, standIns := [], harness := (true, "d981a60d7baf6a90e66935ad44786ab51cd59e9a6f74fb02523dfef8f6e9cda2"), looks := false }, kinds := [], alts := [], laidByText := true, laidKinds := [.data], laidTests := true, laidLooks := .later }
def TopGridsUptoCardSaid : Prop := Claim7.holds Tryd.pinned (.plain (OpenSpec.upto topGridsSpec)) topGridsUptoCard
end Rows
end Go.Proofs.YtjjmnpgbcgkcpaaDoor
