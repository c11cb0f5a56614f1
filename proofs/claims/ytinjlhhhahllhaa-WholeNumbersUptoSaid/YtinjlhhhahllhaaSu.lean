/- leatlaw01: read. -/
import Derived.Test.YtinjlhhhahllhaaSs
import Derived.Test.YtinjlhhhahllhaaSm
import Derived.Test.YtinjlhhhahllhaaRt
namespace Go.Proofs.Ytinjlhhhahllhaa.Ra
open Go Go.RowKit
set_option linter.unusedVariables false
set_option linter.unusedSimpArgs false
set_option maxRecDepth 10000
theorem BxO.up {st st' : St} {K : Nat → Prop} {T : TypeId} {p : AV} {ys : List Int} {n : Int} (h : BxO st K T p ys n) (hk : Ext st st') : BxO st' K T p ys n := h.keep hk (fun _ _ h => h)
theorem szR : szOf Try.prog 53 = some 1 := by kernel_rfl
theorem szL : szOf Try.prog 2 = some 1 := by kernel_rfl
theorem beq_i (a : Int) : (a == a) = true := by simp
end Go.Proofs.Ytinjlhhhahllhaa.Ra
