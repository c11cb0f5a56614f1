/- What Put writes is read back, whatever stands around it, and its Size is told; as a number of 32 bits just where it is one: where the rows ahead and behind are of bulk at most 1048576. -/
import Derived.Test.YthkbnmlelolljaaStmtVintBack
import Derived.Test.YthkbnmlelolljaaPx
namespace Go.Proofs.Ythkbnmlelolljaa.VintBack
open Go.RowKit Go.Proofs.Ythkbnmlelolljaa.Q Go.Proofs.YthkbnmlelolljaaW.PrintWords Go.Proofs.Ythkbnmlelolljaa.Ev Go.Proofs.Ythkbnmlelolljaa.Pv

theorem ones (xs : List Int) : (xs.map fun _ => 1).sum = xs.length := by induction xs with | nil => rfl | cons x r ih => simp [ih]; omega
theorem getS_put (h t : List Int) (v : Int) (hv : i64 v) : getS 10 1 (h ++ put v ++ t) (h.length : Int) = (zig v, (h.length : Int) + (put v).length, 0) := by
  have hz := zig_range hv.1 hv.2
  unfold getS
  rw [if_neg (by simp; omega), Int.toNat_natCast, List.append_assoc, List.drop_left' rfl]
  have hs := scan_dig 10 1 (by decide) t 9 (zig v).toNat 0 0 (by omega) (by omega) (Or.inr rfl)
  refine (congrArg (answer (h.length : Int)) hs).trans ?_
  rw [Int.toNat_of_nonneg hz.1]
  simp [answer, put]
theorem getS32_put (h t : List Int) (v : Int) (hv : i64 v) (hs : -2147483648 ≤ v ∧ v < 2147483648) : getS 5 15 (h ++ put v ++ t) (h.length : Int) = (zig v, (h.length : Int) + (put v).length, 0) := by
  have hz := zig_range hv.1 hv.2
  have hz2 : zig v < 4294967296 := by unfold zig; split <;> omega
  unfold getS
  rw [if_neg (by simp; omega), Int.toNat_natCast, List.append_assoc, List.drop_left' rfl]
  have hs := scan_dig 5 15 (by decide) t 4 (zig v).toNat 0 0 (by omega) (by omega) (Or.inr rfl)
  refine (congrArg (answer (h.length : Int)) hs).trans ?_
  rw [Int.toNat_of_nonneg hz.1]
  simp [answer, put]
theorem getS32_wide (h t : List Int) (v : Int) (hv : i64 v) (hs : ¬ (-2147483648 ≤ v ∧ v < 2147483648)) : getS 5 15 (h ++ put v ++ t) (h.length : Int) = (0, 0, 21) := by
  have hz := zig_range hv.1 hv.2
  have hz2 : 4294967296 ≤ zig v := by unfold zig; split <;> omega
  unfold getS
  rw [if_neg (by simp; omega), Int.toNat_natCast, List.append_assoc, List.drop_left' rfl]
  have hs := scan_wide 5 15 (by decide) t 4 (zig v).toNat 0 0 (by omega) (by omega)
  exact (congrArg (answer (h.length : Int)) hs).trans (by simp [answer])


theorem pure : small := by
  intro h hw v hv t hw2 hsz
  simp only [ones] at hsz
  have hb : Pv.bytes h := fun x hx => wf_u8 (hw x hx)
  have hb2 : Pv.bytes t := fun x hx => wf_u8 (hw2 x hx)
  have hi : i64 v := wf_i64 hv
  have hpl := put_len hi
  have hbb : Pv.bytes (h ++ put v ++ t) := bytes_append (bytes_append hb (put_bytes hi)) hb2
  have hbl : (h ++ put v ++ t).length = h.length + (put v).length + t.length := by simp; omega
  refine Ev.rounds (r := true) ?_
  unfold leatlaw02_VintBack.f
  refine Ev.bind alive_ev (pos rfl (Ev.bind (Put_ev v hi) (Ev.bind (Cat_ev h (put v) (by omega)) (Ev.bind (Cat_ev (h ++ put v) t (by simp; omega)) (Ev.bind (Get_ev _ _ hbb (by omega)) ?_)))))
  rw [getS_put h t v hi]
  refine pos (zag_zig v) (pos rfl (pos (by rw [w64 (by omega) (by omega)]) (Ev.bind (Size_ev v hi) ?_)))
  rw [show (((put v).length : Int) != ((put v).length : Int)) = false by simp]
  refine succ ?_
  simp only [leatlaw02_VintBack.j0]
  refine neg (by decide) (Ev.bind (Get32_ev _ _ hbb (by omega)) ?_)
  by_cases hs : -2147483648 ≤ v ∧ v < 2147483648
  · rw [getS32_put h t v hi hs]
    have e : wrap32 (zag (zig v)) = v := by rw [zag_zig]; unfold wrap32; omega
    refine pos (by omega) (pos (by omega) (pos rfl (pos ?_ ?_)))
    · show wrap64 (wrap32 (zag (zig v))) = v
      rw [e, w64 hi.1 hi.2]
    · simpa using Ev.now true
  · rw [getS32_wide h t v hi hs]
    have e : wrap32 (zag 0) = 0 := by rw [show zag 0 = 0 by decide]; unfold wrap32; omega
    by_cases h1 : v ≥ -2147483648
    · refine pos h1 (neg (by omega) (pos rfl (pos e ?_)))
      simpa using Ev.now true
    · refine neg h1 (pos rfl (pos e ?_))
      simpa using Ev.now true

end Go.Proofs.Ythkbnmlelolljaa.VintBack
