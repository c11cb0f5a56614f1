/- leatlaw01: number. -/
import Derived.Test.YtinjlhhhahllhaaSq
namespace Go.Proofs.Ytinjlhhhahllhaa.Ra
open Go Go.RowKit
set_option linter.unusedVariables false
set_option linter.unusedSimpArgs false
set_option maxRecDepth 10000
theorem sv8 (zs : List Int) (h : zs.length = 1) (hz : ∀ x ∈ zs, 0 ≤ x ∧ x < 256) : IntKind.i8.wrap (val zs) = sval zs := by
  have h1 := sval_bound 0 zs h hz
  have h2 := val_sval 0 zs h
  simp [IntKind.wrap, IntKind.bits, IntKind.signed]
  omega
theorem sv16 (zs : List Int) (h : zs.length = 2) (hz : ∀ x ∈ zs, 0 ≤ x ∧ x < 256) : IntKind.i16.wrap (val zs) = sval zs := by
  have h1 := sval_bound 1 zs h hz
  have h2 := val_sval 1 zs h
  simp [IntKind.wrap, IntKind.bits, IntKind.signed]
  omega
theorem sv32 (zs : List Int) (h : zs.length = 4) (hz : ∀ x ∈ zs, 0 ≤ x ∧ x < 256) : IntKind.i32.wrap (val zs) = sval zs := by
  have h1 := sval_bound 3 zs h hz
  have h2 := val_sval 3 zs h
  simp [IntKind.wrap, IntKind.bits, IntKind.signed]
  omega
theorem sv64 (zs : List Int) (h : zs.length = 8) (hz : ∀ x ∈ zs, 0 ≤ x ∧ x < 256) : IntKind.i64.wrap (val zs) = sval zs := by
  have h1 := sval_bound 7 zs h hz
  have h2 := val_sval 7 zs h
  simp [IntKind.wrap, IntKind.bits, IntKind.signed]
  omega
end Go.Proofs.Ytinjlhhhahllhaa.Ra
