/-
  DERIVED. GIVEN WITH THE SEED: THE CARDS: each row of YtjpgpkkbmoehdaaDoorRows.lean that lists a variable, with what it lists TIED to the program's text (the seventh form; the later family's looks); each row that meets fmt, with fmt's text TOLD by the authors' own Lean function (tested against real Go, not proved from fmt's source: count such statements apart). THE CARD IS WHAT COUNTS. Prove the row's statement (the work); the ties are given (YtjpgpkkbmoehdaaDoorTie.lean); close each card by the builder's one call (the guide's Derived/Test/ToyasCard.lean, 'card_holds'). Laid BY PROGRAM, IN A SANDBOX (cutbox-door.mjs). By AI agents, Wed Nov 11 2026. No macro, syntax, notation, axiom, sorry.
-/
import Derived.Test.YtjpgpkkbmoehdaaDoorRows
import GoSem.ClaimSeven
namespace Go.Proofs.YtjpgpkkbmoehdaaDoor
namespace Rows

/-- THE TIED CARD OF 'leattop.WholeNames'. -/
def wholeNamesCard : Claim7 := { stood := { row := wholeNamesRow, standIns := [], harness := (true, "5c5a97e365f7e28410f5e628032f1341dff758b2e90f36583e7b86c56d03775d"), looks := true }, kinds := [], alts := [], laidByText := true, laidKinds := [.data, .data, .data, .sentinel, .sentinel, .data], laidTests := true, laidLooks := .later }
def WholeNamesCardSaid : Prop := Claim7.holds Tryd.pinned (.plain (OpenSpec.ofChange wholeNamesSpec)) wholeNamesCard

/-- THE SECOND FORM's CARD OF 'leattop.WholeNames'. -/
def wholeNamesUptoCard : Claim7 := { stood := { row := wholeNamesUptoRow, standIns := [], harness := (true, "5c5a97e365f7e28410f5e628032f1341dff758b2e90f36583e7b86c56d03775d"), looks := true }, kinds := [], alts := [], laidByText := true, laidKinds := [.data, .data, .data, .sentinel, .sentinel, .data], laidTests := true, laidLooks := .later }
def WholeNamesUptoCardSaid : Prop := Claim7.holds Tryd.pinned (.plain (OpenSpec.upto wholeNamesSpec)) wholeNamesUptoCard
end Rows
end Go.Proofs.YtjpgpkkbmoehdaaDoor
