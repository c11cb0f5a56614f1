/- Get and Get32 are the reference's, at every place of all bytes, and the bytes stay as they were. -/
import Derived.Test.YthkbnmlelolljaaPx
import Derived.Test.YthkbnmlelolljaaQx5
namespace Go.Proofs.Ythkbnmlelolljaa.Pure
open Go.RowKit Go.Proofs.Ythkbnmlelolljaa.Q Go.Proofs.YthkbnmlelolljaaW.PrintWords Go.Proofs.Ythkbnmlelolljaa.Ev Go.Proofs.Ythkbnmlelolljaa.Pv

theorem VintGets : leatlaw02_VintGets.Pure := by
  intro b a _ hn hw ha
  have hb : Pv.bytes b := fun x hx => wf_u8 (hw x hx)
  obtain ⟨a0, a1⟩ := wf_i64 ha
  have hl : b.length ≤ 140737488351232 := by omega
  have hmk : marks.length = 96 := by simp [marks]
  have hwl : (b ++ marks).length = b.length + 96 := by rw [List.length_append, hmk]
  have ht : (b ++ marks).take ((b.length : Int)).toNat = b := by simp
  refine Ev.rounds (r := true) ?_
  have j0 : Ev (fun k => leatlaw02_VintGets.j0 k b a (b ++ marks) false) true := by
    refine succ ?_
    simp only [leatlaw02_VintGets.j0]
    refine neg (by decide) (pos (by omega) (pos (by omega) ?_))
    rw [ht]
    refine Ev.bind (Get32_ev b a hb (by omega)) (Ev.bind (rGet32_ev b a hb (by omega)) ?_)
    refine pos rfl (pos rfl (pos rfl (Ev.bind (Intact_ev _ b (by omega) (by omega)) ?_)))
    simpa using Ev.now true
  unfold leatlaw02_VintGets.f
  refine Ev.bind alive_ev (pos rfl (Ev.bind (Wide_ev b (by omega)) (pos (by omega) (pos (by omega) ?_))))
  rw [ht]
  refine Ev.bind (Get_ev b a hb (by omega)) (Ev.bind (rGet_ev b a hb (by omega)) (pos rfl (pos rfl ?_)))
  simpa using j0

end Go.Proofs.Ythkbnmlelolljaa.Pure
