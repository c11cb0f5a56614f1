/- GetAll, both; leatlaw02: same, alive. -/
import Derived.Test.YthjfncppiffnmaaDoorVd
namespace Go.Proofs.YthjfncppiffnmaaDoor.Ra
open Go Go.RowKit Vn
set_option linter.unusedVariables false
set_option linter.unusedSimpArgs false
set_option maxRecDepth 10000
/-- What 'GetAll' answers. -/
def GaQ (st : St) (b : List Int) (r : AV) (s : St) : Prop :=
  Ext st s ∧ ∃ x, r = .tup [x, i64 (ga b b.length [] 0).2.1, i64 (ga b b.length [] 0).2.2] ∧ x.solid = true ∧ OwX numK s (fun g => st.n ≤ g) (fun _ _ => False) 2 x (ga b b.length [] 0).1
theorem num_app {st : St} {id : Nat} (n : Int) : RdL (st.put id ⟨[i64 n], 2, true, id⟩) (fun _ => True) numK.s (numK.R (st.put id ⟨[i64 n], 2, true, id⟩) (fun _ => False)) (.sl id 0 1 1) [n] :=
  RdL.one (R := fun cs (x : Int) => cs = [i64 x]) (cs := [i64 n]) rfl rfl st (K := fun _ => True) trivial 2
theorem litV3 (id : Nat) : abuildSlice Tryd.prog 22 id 3 [(0, u8 9), (1, u8 128), (2, u8 1)] = some (.sl id 0 3 1, ⟨[9, 128, 1].map u8, 5, true, id⟩) := lits id [9, 128, 1] (by decide)
theorem getV3 : getV [9, 128, 1] 1 = .tup [i64 64, i64 3, i64 0] := by
  have e : getS 10 1 [9, 128, 1] 1 = (128, 3, 0) := by decide +kernel
  unfold getV
  rw [e]
  rfl
theorem vput64 : vput (-64) = [127] := by
  unfold vput
  rw [show (zig (-64)).toNat = 127 by decide]
  exact dig_small (by decide)
end Go.Proofs.YthjfncppiffnmaaDoor.Ra
