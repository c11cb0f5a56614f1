/- Zig, Zag, Size and Put are the reference's, at every v and u. -/
import Derived.Test.YthkbnmlelolljaaPw
import Derived.Test.YthkbnmlelolljaaQx5
namespace Go.Proofs.Ythkbnmlelolljaa.Pure
open Go.RowKit Go.Proofs.Ythkbnmlelolljaa.Q Go.Proofs.YthkbnmlelolljaaW.PrintWords Go.Proofs.Ythkbnmlelolljaa.Ev Go.Proofs.Ythkbnmlelolljaa.Pv

theorem VintPuts : leatlaw02_VintPuts.Pure := by
  intro v u hv hu
  obtain ⟨v0, v1⟩ := wf_i64 hv
  obtain ⟨u0, u1⟩ := wf_u64 hu
  have hi : i64 v := ⟨v0, v1⟩
  have hl := put_len hi
  refine Ev.rounds (r := true) ?_
  unfold leatlaw02_VintPuts.f
  refine Ev.bind alive_ev (pos rfl (Ev.bind (RPut_ev v hi) (Ev.bind (Zig_ev v0 v1) (Ev.bind (RZig_ev v0 v1) (pos rfl (Ev.bind (Zag_ev u0 u1) (Ev.bind (RZag_ev u0 u1) (pos rfl (Ev.bind (Put_ev v hi) (Ev.bind (Same_ev _ _ (by omega)) ?_))))))))))
  refine pos (by simp) (Ev.bind (Size_ev v hi) ?_)
  simpa using Ev.now true

end Go.Proofs.Ythkbnmlelolljaa.Pure
