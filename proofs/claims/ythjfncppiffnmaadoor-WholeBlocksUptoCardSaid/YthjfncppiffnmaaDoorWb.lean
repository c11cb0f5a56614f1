/- leatref06: length, best. -/
import Derived.Test.YthjfncppiffnmaaDoorWa
namespace Go.Proofs.YthjfncppiffnmaaDoor.Ra
open Go Go.RowKit Pn
set_option linter.unusedVariables false
set_option linter.unusedSimpArgs false
set_option maxRecDepth 10000
theorem getD_in {b : List Int} {k : Nat} (h : k < b.length) : b.getD k 0 = b[k] := by simp [List.getD_eq_getElem?_getD, h]
end Go.Proofs.YthjfncppiffnmaaDoor.Ra
