/- leatlaw01: cut. -/
import Derived.Test.YtinjlhhhahllhaaSo
namespace Go.Proofs.Ytinjlhhhahllhaa.Ra
open Go Go.RowKit
set_option linter.unusedVariables false
set_option linter.unusedSimpArgs false
set_option maxRecDepth 10000
/-- v as the number that stands in n bytes. -/
def cutv (v n : Int) : Int := if n = 1 then IntKind.i64.wrap (IntKind.i8.wrap v) else if n = 2 then IntKind.i64.wrap (IntKind.i16.wrap v) else if n = 4 then IntKind.i64.wrap (IntKind.i32.wrap v) else v
theorem beq_t {a b : Int} (h : a = b) : (a == b) = true := by simp [h]
theorem beq_f {a b : Int} (h : a ≠ b) : (a == b) = false := by simp [h]
end Go.Proofs.Ytinjlhhhahllhaa.Ra
