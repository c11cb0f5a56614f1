/- Row is the reference's at every number from 0 to 15, and ErrArg at every other one: for every i. -/
import Derived.Test.YtlpgpggaagfdnaaDoorStmtCrcRows
import Derived.Test.YtlpgpggaagfdnaaDoorPc
namespace Go.Proofs.YtlpgpggaagfdnaaDoor.CrcRows
open Go.RowKit Go.Proofs.YtlpgpggaagfdnaaDoorW.PrintWords Go.Proofs.YtlpgpggaagfdnaaDoor.Q Go.Proofs.YtlpgpggaagfdnaaDoor.Ev Go.Proofs.YtlpgpggaagfdnaaDoor.Pv
theorem pure : small := by
  intro i hi
  refine Ev.rounds (r := true) ?_
  unfold leatlaw03_CrcRows.f
  have h15 : crc_Row.f 15 = some (4084100981, 0) := by decide +kernel
  by_cases h : i < 0 ∨ 15 < i
  · have e : crc_Row.f i = some (0, 3) := by unfold crc_Row.f; rw [if_pos h]
    refine Ev.bind (const e) (Ev.bind (const h15) (Ev.bind alive_ev (pos rfl (pos rfl ?_))))
    refine succ ?_
    simp only [leatlaw03_CrcRows.j0]
    refine neg (by decide) ?_
    by_cases h0 : i < 0
    · exact pos h0 (pos trivial (Ev.now _))
    · exact neg h0 (pos (by omega) (pos trivial (Ev.now _)))
  · have e : crc_Row.f i = some (rd crcRows i, 0) := by unfold crc_Row.f; rw [if_neg h]
    refine Ev.bind (const e) (Ev.bind (const h15) (Ev.bind alive_ev (pos rfl (pos rfl ?_))))
    refine succ ?_
    simp only [leatlaw03_CrcRows.j0]
    exact neg (by decide) (neg (by omega) (neg (by omega) (Ev.bind (rRow_ev i (by omega) (by omega)) (pos rfl (Ev.now _)))))
end Go.Proofs.YtlpgpggaagfdnaaDoor.CrcRows
