/- leatlaw01: alive, cursor.Join. -/
import Derived.Test.YtinjlhhhahllhaaSh
import Derived.Test.YtinjlhhhahllhaaSd
namespace Go.Proofs.Ytinjlhhhahllhaa.Ra
open Go Go.RowKit
set_option linter.unusedVariables false
set_option linter.unusedSimpArgs false
set_option maxRecDepth 10000
theorem ptrNil {P : Program} {T e : TypeId} (h : P.underlying T = some (.pointer e)) (i off : Nat) : abin P .eql T (.ptr i off) (.pl (.pointer none)) = some (.bool false) := by simp [abin, h, isPtrD, aeqOp]
theorem BxO.ne_nil {st : St} {K : Nat → Prop} {T : TypeId} {p : AV} {ys : List Int} {n : Int} (h : BxO st K T p ys n) {P : Program} {T' e : TypeId} (hu : P.underlying T' = some (.pointer e)) : abin P .eql T' p (.pl (.pointer none)) = some (.bool false) := by
  obtain ⟨i, g, c, rfl, _⟩ := h
  exact ptrNil hu i 0
theorem lit123 (id : Nat) : abuildSlice Try.prog 23 id 3 [(0, u8 1), (1, u8 2), (2, u8 3)] = some (.sl id 0 3 1, ⟨[1, 2, 3].map u8, 5, true, id⟩) := lits id [1, 2, 3] (by decide)
end Go.Proofs.Ytinjlhhhahllhaa.Ra
