/- Zig and Zag undo each other over all numbers, and neighbours in size are neighbours when folded: for every v and u. -/
import Derived.Test.YthkbnmlelolljaaPv
import Derived.Test.YthkbnmlelolljaaQx2
namespace Go.Proofs.Ythkbnmlelolljaa.Pure
open Go.RowKit Go.Proofs.Ythkbnmlelolljaa.Q Go.Proofs.YthkbnmlelolljaaW.PrintWords Go.Proofs.Ythkbnmlelolljaa.Ev Go.Proofs.Ythkbnmlelolljaa.Pv

theorem VintFolds : leatlaw02_VintFolds.Pure := by
  intro v u hv hu
  obtain ⟨v0, v1⟩ := wf_i64 hv
  obtain ⟨u0, u1⟩ := wf_u64 hu
  refine Ev.rounds (r := true) ?_
  have hz := zig_range v0 v1
  have hg := zag_range u0 u1
  have j1 : Ev (fun k => leatlaw02_VintFolds.j1 k v false) true := by
    refine succ ?_
    simp only [leatlaw02_VintFolds.j1]
    refine neg (by decide) ?_
    by_cases hm : v = -9223372036854775808
    · exact pos hm (Ev.now _)
    · refine neg hm ?_
      by_cases h0 : v < 0
      · refine pos h0 (Ev.bind (Zig_ev v0 v1) (Ev.bind (Zig_ev (v := wrap64 (-v)) (by rw [w64 (by omega) (by omega)]; omega) (by rw [w64 (by omega) (by omega)]; omega)) ?_))
        refine pos ?_ (Ev.now _)
        rw [w64 (by omega) (by omega)]
        unfold zig
        rw [if_neg (by omega), if_pos (by omega), IntKind.wrap_u64]
        omega
      · refine neg h0 (pos (by omega) (Ev.bind (Zig_ev v0 v1) ?_))
        have : (Int.tmod (zig v) 2 == 0) = true := by
          unfold zig
          rw [if_pos (by omega), Int.tmod_eq_emod_of_nonneg (by omega), beq_iff_eq]
          omega
        rw [this]
        exact Ev.now _
  have j0 : Ev (fun k => leatlaw02_VintFolds.j0 k v u false) true := by
    refine succ ?_
    simp only [leatlaw02_VintFolds.j0]
    refine neg (by decide) (Ev.bind (Zig_ev v0 v1) (Ev.bind (Zag_ev hz.1 hz.2) (pos (zag_zig v) (Ev.bind (Zag_ev u0 u1) (Ev.bind (Zig_ev hg.1 hg.2) ?_)))))
    rw [show (zig (zag u) != u) = false by simp [zig_zag u u0]]
    exact j1
  unfold leatlaw02_VintFolds.f
  refine Ev.bind alive_ev (pos rfl (Ev.bind (Zig_ev (v := -3) (by decide) (by decide)) (pos (by decide) (Ev.bind (Zag_ev (u := 6) (by decide) (by decide)) ?_))))
  rw [show (zag 6 != 3) = false by decide]
  exact j0

end Go.Proofs.Ythkbnmlelolljaa.Pure
