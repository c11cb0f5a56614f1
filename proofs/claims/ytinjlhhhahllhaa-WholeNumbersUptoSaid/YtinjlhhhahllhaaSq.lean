/- leatlaw01: put, number. -/
import Derived.Test.YtinjlhhhahllhaaSp
namespace Go.Proofs.Ytinjlhhhahllhaa.Ra
open Go Go.RowKit
set_option linter.unusedVariables false
set_option linter.unusedSimpArgs false
set_option maxRecDepth 10000
theorem w8 (v : Int) : IntKind.i64.wrap (IntKind.i8.wrap v) = IntKind.i8.wrap v := by
  have : -128 ≤ IntKind.i8.wrap v ∧ IntKind.i8.wrap v < 128 := by simp [IntKind.wrap, IntKind.bits, IntKind.signed]; omega
  exact wrap64_of (by omega) (by omega)
theorem w16 (v : Int) : IntKind.i64.wrap (IntKind.i16.wrap v) = IntKind.i16.wrap v := by
  have : -32768 ≤ IntKind.i16.wrap v ∧ IntKind.i16.wrap v < 32768 := by simp [IntKind.wrap, IntKind.bits, IntKind.signed]; omega
  exact wrap64_of (by omega) (by omega)
theorem w32 (v : Int) : IntKind.i64.wrap (IntKind.i32.wrap v) = IntKind.i32.wrap v := by
  have : -2147483648 ≤ IntKind.i32.wrap v ∧ IntKind.i32.wrap v < 2147483648 := by simp [IntKind.wrap, IntKind.bits, IntKind.signed]; omega
  exact wrap64_of (by omega) (by omega)
end Go.Proofs.Ytinjlhhhahllhaa.Ra
