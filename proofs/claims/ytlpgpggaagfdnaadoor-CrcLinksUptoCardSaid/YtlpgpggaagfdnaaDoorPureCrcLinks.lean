/- The sum of a whole is reckoned from its parts' sums, however it is cut in three: where the parts are of bulk at most 1048576 together. -/
import Derived.Test.YtlpgpggaagfdnaaDoorStmtCrcLinks
import Derived.Test.YtlpgpggaagfdnaaDoorPk
namespace Go.Proofs.YtlpgpggaagfdnaaDoor.CrcLinks
open Go.RowKit Go.Proofs.YtlpgpggaagfdnaaDoorW.PrintWords Go.Proofs.YtlpgpggaagfdnaaDoor.Q Go.Proofs.YtlpgpggaagfdnaaDoor.Ev Go.Proofs.YtlpgpggaagfdnaaDoor.Pv Go.Proofs.YtlpgpggaagfdnaaDoor.Cm
theorem ones (xs : List Int) : (xs.map fun _ => 1).sum = xs.length := by induction xs with | nil => rfl | cons x r ih => simp [ih]; omega
theorem pure : small := by
  intro x hx y hy z hz hbulk
  simp only [ones] at hbulk
  have bx : Pv.bytes x := fun v hv => wf_u8 (hx v hv)
  have bY : Pv.bytes y := fun v hv => wf_u8 (hy v hv)
  have bz : Pv.bytes z := fun v hv => wf_u8 (hz v hv)
  have one (l : List Int) (h : Pv.bytes l) : Ev (fun k => crc_Sum.f k [l]) (num (crc l)) := by
    have := Sum_ev [l] (by intro m hm; simp at hm; rw [hm]; exact h) (by simp)
    simpa using this
  refine Ev.rounds (r := true) ?_
  unfold leatlaw03_CrcLinks.f
  refine Ev.bind alive_ev (pos rfl (Ev.bind (one x bx) (Ev.bind (one y bY) (Ev.bind (one z bz) (Ev.bind (Cat_ev x y (by omega)) (Ev.bind (Cat_ev (x ++ y) z (by simp; omega)) (Ev.bind (one _ (bytes_append (bytes_append bx bY) bz)) ?_)))))))
  refine Ev.bind (Link_ev _ _ _ (by omega)) (Ev.bind (Link_ev _ _ _ (by omega)) (Ev.bind (Link_ev _ _ _ (by omega)) ?_))
  rw [w64 (by omega) (by omega)]
  refine Ev.bind (Link_ev _ _ _ (by omega)) ?_
  have e1 : lk (lk (crc x) (crc y) y.length) (crc z) z.length = crc (x ++ y ++ z) := by rw [← crc_lk, ← crc_lk]
  have e2 : lk (crc x) (lk (crc y) (crc z) z.length) ((y.length : Int) + (z.length : Int)).toNat = crc (x ++ y ++ z) := by
    rw [← crc_lk, show ((y.length : Int) + (z.length : Int)).toNat = (y ++ z).length by simp; omega, ← crc_lk, List.append_assoc]
  rw [Int.toNat_natCast, Int.toNat_natCast, e1, e2]
  refine pos rfl (pos rfl (Ev.bind (Update_ev _ y bY) (Ev.bind (Update_ev _ z bz) ?_)))
  have e3 : upd (upd (crc x) y) z = crc (x ++ y ++ z) := by unfold crc; rw [upd_append, upd_append]
  rw [e3]
  simpa using Ev.now true
end Go.Proofs.YtlpgpggaagfdnaaDoor.CrcLinks
