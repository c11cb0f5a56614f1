-- Printed by a program of this workplace's own (wip/print), out of the translation. Not trusted: Lean checks it.
import Derived.Test.YtlpgpggaagfdnaaDoorQx0
namespace Go.Proofs.YtlpgpggaagfdnaaDoor.Q
open Go.RowKit Go.Proofs.YtlpgpggaagfdnaaDoorW.PrintWords Go.Proofs.YtlpgpggaagfdnaaDoorW.PrintLast Go.Proofs.YtlpgpggaagfdnaaDoorW.PrintMore
attribute [local go_sem] max2_int min2_int max_two min_two max_three min_three max_four min_four   -- for this text's walks alone
set_option linter.unusedVariables false
set_option linter.unusedSimpArgs false

theorem eqA44 (d : Nat) (w : World) (x0 y0 : Int) (x1 y1 : Int) (x2 y2 : Int) (x3 y3 : Int) :
    (Op.equalIn (d + 2) 44 (.agg #[.int .u8 x0, .int .u8 x1, .int .u8 x2, .int .u8 x3]) (.agg #[.int .u8 y0, .int .u8 y1, .int .u8 y2, .int .u8 y3])).run Tryd.prog w = .ok (x0 == y0 && (x1 == y1 && (x2 == y2 && (x3 == y3)))) w := by
  obtain ⟨i, hi, _⟩ := info_parts info5
  rw [run_equalIn_array w (d + 1) _ _ Tryd.underlying44 hi, show List.range 4 = [0, 1, 2, 3] from rfl, show Tryd.prog.cellsOf 5 = 1 by kernel_rfl]
  have hu := Tryd.underlying5
  refine eqItem_step (by go_simp; rfl) (by go_simp; rfl) (by go_simp) ?_
  refine eqItem_step (by go_simp; rfl) (by go_simp; rfl) (by go_simp) ?_
  refine eqItem_step (by go_simp; rfl) (by go_simp; rfl) (by go_simp) ?_
  exact eqItem_last (by go_simp; rfl) (by go_simp; rfl) (by go_simp)
end Go.Proofs.YtlpgpggaagfdnaaDoor.Q
