/- Link at any three numbers answers as the document says: for every input. -/
import Derived.Test.YtlpgpggaagfdnaaDoorStmtCrcShifts
import Derived.Test.YtlpgpggaagfdnaaDoorPk
namespace Go.Proofs.YtlpgpggaagfdnaaDoor.CrcShifts
open Go.RowKit Go.Proofs.YtlpgpggaagfdnaaDoorW.PrintWords Go.Proofs.YtlpgpggaagfdnaaDoor.Q Go.Proofs.YtlpgpggaagfdnaaDoor.Ev Go.Proofs.YtlpgpggaagfdnaaDoor.Pv Go.Proofs.YtlpgpggaagfdnaaDoor.Cm
theorem pure : small := by
  intro a0 h0 a1 h1 a2 h2
  obtain ⟨p0, q0⟩ : 0 ≤ a0 ∧ a0 ≤ 4294967295 := by simp [Lit.wf, IntKind.min, IntKind.max, IntKind.bits, IntKind.signed] at h0; omega
  obtain ⟨p1, q1⟩ : 0 ≤ a1 ∧ a1 ≤ 4294967295 := by simp [Lit.wf, IntKind.min, IntKind.max, IntKind.bits, IntKind.signed] at h1; omega
  obtain ⟨p2, q2⟩ := wf_i64 h2
  refine Ev.rounds (r := true) ?_
  rw [← num_ofInt p0 q0, ← num_ofInt p1 q1]
  unfold leatlaw03_CrcShifts.f
  refine Ev.bind alive_ev (pos rfl (Ev.bind (Link_ev _ _ a2 (by omega)) (Ev.bind (rLink_ev _ _ a2 (by omega)) ?_)))
  simpa using Ev.now true
end Go.Proofs.YtlpgpggaagfdnaaDoor.CrcShifts
