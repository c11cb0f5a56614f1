/- leatlaw01.CursorJoins. -/
import Derived.Test.YtinjlhhhahllhaaSj
import Derived.Test.YtinjlhhhahllhaaRr
namespace Go.Proofs.Ytinjlhhhahllhaa.Ra
open Go Go.RowKit
set_option linter.unusedVariables false
set_option linter.unusedSimpArgs false
set_option maxRecDepth 10000
theorem litR0 (id : Nat) : abuildSlice Try.prog 53 id 0 [] = some (.sl id 0 0 1, ⟨[], 23, true, id⟩) := lits_one TB id [] (by simp) (by decide)
theorem litR1 {st : St} {K : Nat → Prop} {x : AV} {ys : List Int} (hl : RdB st K x ys) (id : Nat) : abuildSlice Try.prog 53 id 1 [(0, x)] = some (.sl id 0 1 1, ⟨[x], 23, true, id⟩) := lits_one TB id [x] (by simp [hl.solid, hl.cell.1]) (by simp)
theorem lit89 (id : Nat) : abuildSlice Try.prog 23 id 2 [(0, u8 8), (1, u8 9)] = some (.sl id 0 2 1, ⟨[8, 9].map u8, 5, true, id⟩) := lits id [8, 9] (by decide)
theorem lit789 (id : Nat) : abuildSlice Try.prog 23 id 3 [(0, u8 7), (1, u8 8), (2, u8 9)] = some (.sl id 0 3 1, ⟨[7, 8, 9].map u8, 5, true, id⟩) := lits id [7, 8, 9] (by decide)
theorem litR3 (id a b : Nat) : abuildSlice Try.prog 53 id 3 [(0, .sl a 0 1 1), (1, .pl (.slice none 0 0)), (2, .sl b 0 2 1)] = some (.sl id 0 3 1, ⟨[.sl a 0 1 1, .pl (.slice none 0 0), .sl b 0 2 1], 23, true, id⟩) := lits_one TB id [.sl a 0 1 1, .pl (.slice none 0 0), .sl b 0 2 1] (by simp; exact ⟨⟨rfl, rfl⟩, ⟨rfl, rfl⟩, rfl, rfl⟩) (by simp)
theorem RB.of {st : St} (c : List AV) (x : List Int) (h : ∃ v, c = [v] ∧ RdL st (fun _ => True) 1 (fun cs n => cs = [.pl (.int .u8 n)]) v x) : RB st (fun _ => True) c x := by
  obtain ⟨v, h1, h2⟩ := h
  exact ⟨v, h1, RdL.bytes h2⟩
end Go.Proofs.Ytinjlhhhahllhaa.Ra
