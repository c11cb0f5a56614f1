/-
  DERIVED. GIVEN WITH THE SEED: THE CARDS: each row of YthjfncppiffnmaaDoorRows.lean that lists a variable, with what it lists TIED to the program's text (the seventh form; the later family's looks); each row that meets fmt, with fmt's text TOLD by the authors' own Lean function (tested against real Go, not proved from fmt's source: count such statements apart). THE CARD IS WHAT COUNTS. Prove the row's statement (the work); the ties are given (YthjfncppiffnmaaDoorTie.lean); close each card by the builder's one call (the guide's Derived/Test/ToyasCard.lean, 'card_holds'). Laid BY PROGRAM, IN A SANDBOX (cutbox-door.mjs). By AI agents, Wed Nov 11 2026. No macro, syntax, notation, axiom, sorry.
-/
import Derived.Test.YthjfncppiffnmaaDoorRows
import GoSem.ClaimSeven
namespace Go.Proofs.YthjfncppiffnmaaDoor
namespace Rows

/-- THE TIED CARD OF 'leattop.WholeBlocks'. -/
def wholeBlocksCard : Claim7 := { stood := { row := wholeBlocksRow, standIns := [], harness := (true, "6c9e17352c2f7a284b5c2e7156fd54d4ac9e8372160180c2d614dce14b174a08"), looks := false }, kinds := [], alts := [], laidByText := true, laidKinds := [.data], laidTests := true, laidLooks := .later }
def WholeBlocksCardSaid : Prop := Claim7.holds Tryd.pinned (.plain (OpenSpec.ofChange wholeBlocksSpec)) wholeBlocksCard

/-- THE SECOND FORM's CARD OF 'leattop.WholeBlocks'. -/
def wholeBlocksUptoCard : Claim7 := { stood := { row := wholeBlocksUptoRow, standIns := [], harness := (true, "6c9e17352c2f7a284b5c2e7156fd54d4ac9e8372160180c2d614dce14b174a08"), looks := false }, kinds := [], alts := [], laidByText := true, laidKinds := [.data], laidTests := true, laidLooks := .later }
def WholeBlocksUptoCardSaid : Prop := Claim7.holds Tryd.pinned (.plain (OpenSpec.upto wholeBlocksSpec)) wholeBlocksUptoCard
end Rows
end Go.Proofs.YthjfncppiffnmaaDoor
