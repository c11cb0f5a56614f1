/- What Get reads is just what Put writes, and no beginning of it is read: at every place of all bytes. -/
import Derived.Test.YthkbnmlelolljaaPx
import Derived.Test.YthkbnmlelolljaaQx3
namespace Go.Proofs.Ythkbnmlelolljaa.Pure
open Go.RowKit Go.Proofs.Ythkbnmlelolljaa.Q Go.Proofs.YthkbnmlelolljaaW.PrintWords Go.Proofs.Ythkbnmlelolljaa.Ev Go.Proofs.Ythkbnmlelolljaa.Pv

theorem VintOnly : leatlaw02_VintOnly.Pure := by
  intro b a _ hn hw ha
  have hb : Pv.bytes b := fun x hx => wf_u8 (hw x hx)
  obtain ⟨a0, a1⟩ := wf_i64 ha
  have hl : b.length ≤ 140737488351232 := by omega
  have hz : zag 0 = 0 := by decide
  refine Ev.rounds (r := true) ?_
  unfold leatlaw02_VintOnly.f
  refine Ev.bind alive_ev (pos rfl (Ev.bind (Get_ev b a hb (by omega)) ?_))
  by_cases ho : a < 0 ∨ (b.length : Int) < a
  · have e : getS 10 1 b a = (0, 0, 3) := by unfold getS; rw [if_pos ho]
    rw [e]
    refine neg (by decide) (pos hz ?_)
    simpa using Ev.now true
  · have e : getS 10 1 b a = answer a (scan 10 1 0 0 (b.drop a.toNat)) := by unfold getS; rw [if_neg ho]
    obtain ⟨n, rfl⟩ := Int.eq_ofNat_of_zero_le (show 0 ≤ a by omega)
    rw [Int.toNat_natCast] at e
    by_cases he : (scan 10 1 0 0 (b.drop n)).2.2 = 0
    · obtain ⟨v, t, hd, hv, _⟩ := scan_only 10 1 (by decide) (b.drop n) 9 0 0 (bytes_drop hb _) (by omega) he
      have hs := scan_dig 10 1 (by decide) t 9 v 0 0 (by omega) hv (Or.inr rfl)
      have hlen : b.length - n = (dig v).length + t.length := by
        have := congrArg List.length hd
        simpa using this
      have hv2 : v < 18446744073709551616 := by omega
      have h1 := dig_len10 hv2
      have hzr := zag_range (u := (v : Int)) (by omega) (by omega)
      have ee : getS 10 1 b (n : Int) = ((v : Int), (n : Int) + (dig v).length, 0) := by
        rw [e, hd]
        exact (congrArg (answer (n : Int)) hs).trans (by simp [answer])
      rw [ee]
      refine pos rfl (neg (by omega) (neg (by simp only; omega) (neg (by simp only; omega) ?_)))
      simp only
      rw [w64 (by omega) (by omega), decide_eq_false (show ¬ ((n : Int) + (dig v).length - n > 10) by omega)]
      refine succ ?_
      simp only [leatlaw02_VintOnly.j0]
      have hpiece : ∀ m, m ≤ (dig v).length → piece b (n : Int) ((n : Int) + (m : Int)) = (dig v).take m := by
        intro m hm
        unfold piece
        rw [Int.toNat_natCast, show ((n : Int) + (m : Int)).toNat = n + m by omega, List.drop_take, Nat.add_sub_cancel_left, hd, List.take_append_of_le_length hm]
      refine neg (by decide) (Ev.bind (Put_ev (zag v) hzr) (Ev.bind (Piece_ev b n _ (by omega) (by omega) (by omega)) ?_))
      rw [hpiece _ (Nat.le_refl _), List.take_length]
      have hput : put (zag (v : Int)) = dig v := by unfold put; rw [zig_zag _ (by omega), Int.toNat_natCast]
      rw [hput]
      refine Ev.bind (Same_ev _ _ (by omega)) (pos (by simp) ?_)
      have loop : ∀ (m j : Nat), m + j = (dig v).length → Ev (fun k => leatlaw02_VintOnly.l0 k b n ((n : Int) + (dig v).length) j) true := by
        intro m
        induction m with
        | zero =>
          intro j hj
          refine succ ?_
          simp only [leatlaw02_VintOnly.l0]
          rw [w64 (by omega) (by omega)]
          exact neg (by omega) (Ev.now _)
        | succ m ih =>
          intro j hj
          refine succ ?_
          simp only [leatlaw02_VintOnly.l0]
          rw [w64 (x := (n : Int) + (dig v).length - n) (by omega) (by omega), w64 (x := (n : Int) + j) (by omega) (by omega), w64 (x := (j : Int) + 1) (by omega) (by omega)]
          refine pos (by omega) (Ev.bind (Piece_ev b n _ (by omega) (by omega) (by omega)) ?_)
          rw [hpiece j (by omega)]
          refine Ev.bind (Get_ev _ 0 (bytes_take (dig_bytes10 hv2) _) (by rw [List.length_take]; omega)) ?_
          have es : getS 10 1 ((dig v).take j) 0 = (0, 0, 1) := by
            unfold getS
            rw [if_neg (by omega), show (0 : Int).toNat = 0 from rfl, List.drop_zero]
            exact (congrArg (answer 0) (scan_cut 10 1 (by decide) 9 v 0 0 j (by omega) hv (by omega))).trans (by simp [answer])
          rw [es]
          refine pos hz (pos rfl (pos rfl ?_))
          exact ih (j + 1) (by omega)
      exact loop (dig v).length 0 (by omega)
    · have ee : getS 10 1 b (n : Int) = (0, 0, (scan 10 1 0 0 (b.drop n)).2.2) := by rw [e]; simp [answer, he]
      rw [ee]
      refine neg he (pos hz ?_)
      simpa using Ev.now true

end Go.Proofs.Ythkbnmlelolljaa.Pure
