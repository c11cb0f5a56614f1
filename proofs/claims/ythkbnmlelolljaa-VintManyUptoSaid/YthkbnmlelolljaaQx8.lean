-- Printed by a program of this workplace's own (wip/print), out of the translation. Not trusted: Lean checks it.
import Derived.Test.YthkbnmlelolljaaQx0
import Derived.Test.YthkbnmlelolljaaQx1
import Derived.Test.YthkbnmlelolljaaQx2
import Derived.Test.YthkbnmlelolljaaQx7
namespace Go.Proofs.Ythkbnmlelolljaa.Q
open Go.RowKit Go.Proofs.YthkbnmlelolljaaW.PrintWords Go.Proofs.YthkbnmlelolljaaW.PrintLast Go.Proofs.YthkbnmlelolljaaW.PrintMore
attribute [local go_sem] max2_int min2_int max_two min_two max_three min_three max_four min_four   -- for this text's walks alone
set_option linter.unusedVariables false
set_option linter.unusedSimpArgs false

/-! ### leatlaw02_VintMany: function 9 -/
mutual
def leatlaw02_VintMany.j0 : Nat → List Int → Int → List Int → Bool → Option (Bool)
  | 0, _, _, _, _ => none
  | k + 1, x0, x1, x5, x36 => if x36 = true then (some false) else (if x1 < 0 then (leatlaw02_VintMany.j1 k x0 x1 x5 true) else (leatlaw02_VintMany.j1 k x0 x1 x5 (decide (x1 ≥ (x5.length : Int)))))
def leatlaw02_VintMany.j1 : Nat → List Int → Int → List Int → Bool → Option (Bool)
  | 0, _, _, _, _ => none
  | k + 1, x0, x1, x5, x44 => if x44 = true then (some true) else ((leatref01_Piece.f k x5 0 x1).bind fun t357 => ((vint_GetAll.f k t357).bind fun bt360 => (if bt360.2.2 = 0 then (if bt360.2.1 = 0 then (if (bt360.1.length : Int) < (x0.length : Int) then (if 0 ≤ (bt360.1.length : Int) then (if (bt360.1.length : Int) ≤ (x0.length : Int) then ((leatlaw02_same.f k bt360.1 (x0.take ((bt360.1.length : Int) : Int).toNat)).bind fun t366 => (some t366)) else (none)) else (none)) else (some false)) else (some false)) else (if bt360.2.2 = 1 then (if (bt360.1.length : Int) = 0 then (if bt360.2.1 ≥ x1 then (leatlaw02_VintMany.j2 k x0 x5 bt360.2.1 true) else (leatlaw02_VintMany.j2 k x0 x5 bt360.2.1 (decide (bt360.2.1 < 0)))) else (leatlaw02_VintMany.j2 k x0 x5 bt360.2.1 true)) else (leatlaw02_VintMany.j2 k x0 x5 bt360.2.1 true)))))
def leatlaw02_VintMany.j2 : Nat → List Int → List Int → Int → Bool → Option (Bool)
  | 0, _, _, _, _ => none
  | k + 1, x0, x5, x10, x87 => if x87 = true then (some false) else ((leatref01_Piece.f k x5 0 x10).bind fun t367 => ((vint_GetAll.f k t367).bind fun bt370 => (if bt370.2.2 = 0 then (if (bt370.1.length : Int) < (x0.length : Int) then (if 0 ≤ (bt370.1.length : Int) then (if (bt370.1.length : Int) ≤ (x0.length : Int) then ((leatlaw02_same.f k bt370.1 (x0.take ((bt370.1.length : Int) : Int).toNat)).bind fun t376 => (some t376)) else (none)) else (none)) else (some false)) else (some false))))
end
def leatlaw02_VintMany.f (k : Nat) (l0 : List Int) (a1 : Int) : Option (Bool) := (leatlaw02_alive.f k).bind fun t347 => (if t347 = true then ((vint_PutAll.f k l0).bind fun t348 => ((vint_GetAll.f k t348).bind fun bt351 => (if bt351.2.2 = 0 then (if bt351.2.1 = 0 then ((leatlaw02_same.f k bt351.1 l0).bind fun t356 => (leatlaw02_VintMany.j0 k l0 a1 t348 (!t356))) else (leatlaw02_VintMany.j0 k l0 a1 t348 true)) else (leatlaw02_VintMany.j0 k l0 a1 t348 true)))) else (some false))
theorem leatlaw02_VintMany.mono_l : ∀ k, (∀ y0 y1 y2 y3, LeO (leatlaw02_VintMany.j0 k y0 y1 y2 y3) (leatlaw02_VintMany.j0 (k + 1) y0 y1 y2 y3)) ∧ (∀ y0 y1 y2 y3, LeO (leatlaw02_VintMany.j1 k y0 y1 y2 y3) (leatlaw02_VintMany.j1 (k + 1) y0 y1 y2 y3)) ∧ (∀ y0 y1 y2 y3, LeO (leatlaw02_VintMany.j2 k y0 y1 y2 y3) (leatlaw02_VintMany.j2 (k + 1) y0 y1 y2 y3))
  | 0 => ⟨fun _ _ _ _ r h => by simp [leatlaw02_VintMany.j0] at h, fun _ _ _ _ r h => by simp [leatlaw02_VintMany.j1] at h, fun _ _ _ _ r h => by simp [leatlaw02_VintMany.j2] at h⟩
  | k + 1 => by
    obtain ⟨ih0, ih1, ih2⟩ := leatlaw02_VintMany.mono_l k
    refine ⟨?_, ?_, ?_⟩
    · intro y0 y1 y2 y3
      unfold leatlaw02_VintMany.j0
      repeat' first
      | (with_reducible exact ih0 _ _ _ _)
      | (with_reducible exact ih1 _ _ _ _)
      | (with_reducible exact ih2 _ _ _ _)
      | (with_reducible exact leatlaw02_alive.mono _)
      | (with_reducible exact leatlaw02_same.mono _ _ _)
      | (with_reducible exact leatref01_Piece.mono _ _ _ _)
      | (with_reducible exact vint_GetAll.mono _ _)
      | (with_reducible exact vint_PutAll.mono _ _)
      | (with_reducible exact LeO.refl _)
      | (with_reducible exact LeO.none _)
      | (with_reducible refine LeO.ite ?_ ?_)
      | (with_reducible refine LeO.bind ?_ (fun _ => ?_))
      | exact ih0 _ _ _ _
      | exact ih1 _ _ _ _
      | exact ih2 _ _ _ _
      | exact leatlaw02_alive.mono _
      | exact leatlaw02_same.mono _ _ _
      | exact leatref01_Piece.mono _ _ _ _
      | exact vint_GetAll.mono _ _
      | exact vint_PutAll.mono _ _
      | exact LeO.none _
      | refine LeO.ite ?_ ?_
      | refine LeO.bind ?_ (fun _ => ?_)
    · intro y0 y1 y2 y3
      unfold leatlaw02_VintMany.j1
      repeat' first
      | (with_reducible exact ih0 _ _ _ _)
      | (with_reducible exact ih1 _ _ _ _)
      | (with_reducible exact ih2 _ _ _ _)
      | (with_reducible exact leatlaw02_alive.mono _)
      | (with_reducible exact leatlaw02_same.mono _ _ _)
      | (with_reducible exact leatref01_Piece.mono _ _ _ _)
      | (with_reducible exact vint_GetAll.mono _ _)
      | (with_reducible exact vint_PutAll.mono _ _)
      | (with_reducible exact LeO.refl _)
      | (with_reducible exact LeO.none _)
      | (with_reducible refine LeO.ite ?_ ?_)
      | (with_reducible refine LeO.bind ?_ (fun _ => ?_))
      | exact ih0 _ _ _ _
      | exact ih1 _ _ _ _
      | exact ih2 _ _ _ _
      | exact leatlaw02_alive.mono _
      | exact leatlaw02_same.mono _ _ _
      | exact leatref01_Piece.mono _ _ _ _
      | exact vint_GetAll.mono _ _
      | exact vint_PutAll.mono _ _
      | exact LeO.none _
      | refine LeO.ite ?_ ?_
      | refine LeO.bind ?_ (fun _ => ?_)
    · intro y0 y1 y2 y3
      unfold leatlaw02_VintMany.j2
      repeat' first
      | (with_reducible exact ih0 _ _ _ _)
      | (with_reducible exact ih1 _ _ _ _)
      | (with_reducible exact ih2 _ _ _ _)
      | (with_reducible exact leatlaw02_alive.mono _)
      | (with_reducible exact leatlaw02_same.mono _ _ _)
      | (with_reducible exact leatref01_Piece.mono _ _ _ _)
      | (with_reducible exact vint_GetAll.mono _ _)
      | (with_reducible exact vint_PutAll.mono _ _)
      | (with_reducible exact LeO.refl _)
      | (with_reducible exact LeO.none _)
      | (with_reducible refine LeO.ite ?_ ?_)
      | (with_reducible refine LeO.bind ?_ (fun _ => ?_))
      | exact ih0 _ _ _ _
      | exact ih1 _ _ _ _
      | exact ih2 _ _ _ _
      | exact leatlaw02_alive.mono _
      | exact leatlaw02_same.mono _ _ _
      | exact leatref01_Piece.mono _ _ _ _
      | exact vint_GetAll.mono _ _
      | exact vint_PutAll.mono _ _
      | exact LeO.none _
      | refine LeO.ite ?_ ?_
      | refine LeO.bind ?_ (fun _ => ?_)
theorem leatlaw02_VintMany.mono : ∀ a0 a1 k, LeO (leatlaw02_VintMany.f k a0 a1) (leatlaw02_VintMany.f (k + 1) a0 a1) := by
  intro a0 a1 k
  obtain ⟨ih0, ih1, ih2⟩ := leatlaw02_VintMany.mono_l k
  unfold leatlaw02_VintMany.f
  repeat' first
      | (with_reducible exact ih0 _ _ _ _)
      | (with_reducible exact ih1 _ _ _ _)
      | (with_reducible exact ih2 _ _ _ _)
      | (with_reducible exact leatlaw02_alive.mono _)
      | (with_reducible exact leatlaw02_same.mono _ _ _)
      | (with_reducible exact leatref01_Piece.mono _ _ _ _)
      | (with_reducible exact vint_GetAll.mono _ _)
      | (with_reducible exact vint_PutAll.mono _ _)
      | (with_reducible exact LeO.refl _)
      | (with_reducible exact LeO.none _)
      | (with_reducible refine LeO.ite ?_ ?_)
      | (with_reducible refine LeO.bind ?_ (fun _ => ?_))
      | exact ih0 _ _ _ _
      | exact ih1 _ _ _ _
      | exact ih2 _ _ _ _
      | exact leatlaw02_alive.mono _
      | exact leatlaw02_same.mono _ _ _
      | exact leatref01_Piece.mono _ _ _ _
      | exact vint_GetAll.mono _ _
      | exact vint_PutAll.mono _ _
      | exact LeO.none _
      | refine LeO.ite ?_ ?_
      | refine LeO.bind ?_ (fun _ => ?_)
set_option maxHeartbeats 8000000 in
set_option maxRecDepth 100000 in
theorem leatlaw02_VintMany.calls (k : Nat) (A0 : Option Addr) (c0 : Nat) (l0 : List Int) (a1 : Int) (r : Bool) (w : World) (hr0 : Kd.C (Kd.int .i64) w A0 l0.length l0) (hc0 : l0.length ≤ c0) (h : leatlaw02_VintMany.f k l0 a1 = some r) :
    Calls Try.prog 9 #[.slice A0 l0.length c0, .int .i64 a1] w fun e w' => e = .returned (.bool r) ∧ Below w.heap.size w w' := by
  have HR0 := Aside0.mk hr0
  have HC0 := Aside0.mk hc0
  clear hr0 hc0
  have HB := Aside0.mk (Below.refl w.heap.size w)
  have H : ((leatlaw02_alive.f k).bind fun t347 => (if t347 = true then ((vint_PutAll.f k l0).bind fun t348 => ((vint_GetAll.f k t348).bind fun bt351 => (if bt351.2.2 = 0 then (if bt351.2.1 = 0 then ((leatlaw02_same.f k bt351.1 l0).bind fun t356 => (leatlaw02_VintMany.j0 k l0 a1 t348 (!t356))) else (leatlaw02_VintMany.j0 k l0 a1 t348 true)) else (leatlaw02_VintMany.j0 k l0 a1 t348 true)))) else (some false))) = some r := h
  clear h
  replace H := Option.bind_eq_some_iff.mp H
  obtain ⟨t347, A30, H⟩ := H
  replace H : (if t347 = true then ((vint_PutAll.f k l0).bind fun t348 => ((vint_GetAll.f k t348).bind fun bt351 => (if bt351.2.2 = 0 then (if bt351.2.1 = 0 then ((leatlaw02_same.f k bt351.1 l0).bind fun t356 => (leatlaw02_VintMany.j0 k l0 a1 t348 (!t356))) else (leatlaw02_VintMany.j0 k l0 a1 t348 true)) else (leatlaw02_VintMany.j0 k l0 a1 t348 true)))) else (some false)) = some r := H
  have A3 := Aside0.mk A30
  clear A30
  by_cases c4 : t347 = true
  · subst c4
    have H1 : ((vint_PutAll.f k l0).bind fun t348 => ((vint_GetAll.f k t348).bind fun bt351 => (if bt351.2.2 = 0 then (if bt351.2.1 = 0 then ((leatlaw02_same.f k bt351.1 l0).bind fun t356 => (leatlaw02_VintMany.j0 k l0 a1 t348 (!t356))) else (leatlaw02_VintMany.j0 k l0 a1 t348 true)) else (leatlaw02_VintMany.j0 k l0 a1 t348 true)))) = some r := by rw [if_pos rfl] at H; exact H
    clear H
    have H := H1
    clear H1
    replace H := Option.bind_eq_some_iff.mp H
    obtain ⟨t348, A50, H⟩ := H
    replace H : ((vint_GetAll.f k t348).bind fun bt351 => (if bt351.2.2 = 0 then (if bt351.2.1 = 0 then ((leatlaw02_same.f k bt351.1 l0).bind fun t356 => (leatlaw02_VintMany.j0 k l0 a1 t348 (!t356))) else (leatlaw02_VintMany.j0 k l0 a1 t348 true)) else (leatlaw02_VintMany.j0 k l0 a1 t348 true))) = some r := H
    have A5 := Aside0.mk A50
    clear A50
    replace H := Option.bind_eq_some_iff.mp H
    obtain ⟨⟨t351, t352, t353⟩, A60, H⟩ := H
    replace H : (if t353 = 0 then (if t352 = 0 then ((leatlaw02_same.f k t351 l0).bind fun t356 => (leatlaw02_VintMany.j0 k l0 a1 t348 (!t356))) else (leatlaw02_VintMany.j0 k l0 a1 t348 true)) else (leatlaw02_VintMany.j0 k l0 a1 t348 true)) = some r := H
    have A6 := Aside0.mk A60
    clear A60
    have HC7 := Aside0.mk H
    clear H
    go_enter Try.func9, Try.ntmps9
    go_upto_region 5 with (first | ((with_reducible refine gate_callee (f := 10) rfl ?_); refine goesL_ (some 15) rfl rfl Try.func10 (by kernel_rfl) rfl #[] rfl (by (try simp only [List.map_toArray, List.map_cons, List.map_nil]); first | done | rfl | (simp only [List.length_drop, List.length_take]; rfl)) ?_; (with_reducible refine (leatlaw02_alive.calls k  true _ A3.out).mono ?_); rintro e w8 ⟨rfl, hb⟩; refine ⟨_, rfl, ?_⟩; have n0_ := Aside0.mk (below_step (by repeat (first | (with_reducible first | exact HB.out | apply below_alloc | apply pw_below_drewN | apply below_drew1) | exact HB.out)) hb); clear HB; have HB := n0_; clear n0_; (try clear hb); (try clear hb2); (try clear hk); (try clear hi)) | ((with_reducible refine gate_callee (f := 28) rfl ?_); refine goesL_ (some 18) rfl rfl Try.func28 (by kernel_rfl) rfl #[.slice A0 l0.length c0] rfl (by (try simp only [List.map_toArray, List.map_cons, List.map_nil]); first | done | rfl | (simp only [List.length_drop, List.length_take]; rfl)) ?_; (with_reducible refine (vint_PutAll.calls k _ _ l0 t348 _ ?side1 ?side2 A5.out).mono ?_); (case side1 => repeat (first | exact (Kd.C_below HR0.out HB.out) | (with_reducible refine Kd.C_alloc ?_ _) | (with_reducible refine Kd.C_drewN ?_ _) | (with_reducible refine Kd.C_drew ?_))); (case side2 => exact HC0.out); rintro e w9 ⟨v349, rfl, ho0, hb⟩; refine ⟨_, rfl, ?_⟩; have n0_ := Aside0.mk (Kd.R_lower ho0 (below_size (by repeat (first | (with_reducible first | exact HB.out | apply below_alloc | apply pw_below_drewN | apply below_drew1) | exact HB.out)))); have n1_ := Aside0.mk (below_step (by repeat (first | (with_reducible first | exact HB.out | apply below_alloc | apply pw_below_drewN | apply below_drew1) | exact HB.out)) hb); clear HB; have HO350 := n0_; have HB := n1_; clear n0_ n1_; (try clear hb); (try clear hb2); (try clear hk); (try clear hi); (try clear ho0); obtain ⟨Ao10, co10, eo10⟩ := Kd.R_slice HO350.out; subst eo10) | ((with_reducible refine gate_callee (f := 32) rfl ?_); refine goesL_ (some 21) rfl rfl Try.func32 (by kernel_rfl) rfl #[.slice Ao10 t348.length co10] rfl (by (try simp only [List.map_toArray, List.map_cons, List.map_nil]); first | done | rfl | (simp only [List.length_drop, List.length_take]; rfl)) ?_; (with_reducible refine (vint_GetAll.calls k _ _ t348 t351 t352 t353 _ ?side1 ?side2 A6.out).mono ?_); (case side1 => repeat (first | exact (Kd.R_reads' HO350.out).2.2 | (with_reducible refine Kd.C_alloc ?_ _) | (with_reducible refine Kd.C_drewN ?_ _) | (with_reducible refine Kd.C_drew ?_))); (case side2 => exact (Kd.R_reads' HO350.out).2.1); rintro e w11 ⟨v354, rfl, ho0, hb⟩; refine ⟨_, rfl, ?_⟩; have n0_ := Aside0.mk (Kd.R_below (by (with_reducible repeat (first | apply Kd.R_alloc | apply Kd.R_drewN | apply Kd.R_drew)); exact HO350.out) hb); have n1_ := Aside0.mk (Kd.R_lower ho0 (below_size (by repeat (first | (with_reducible first | exact HB.out | apply below_alloc | apply pw_below_drewN | apply below_drew1) | exact HB.out)))); have n2_ := Aside0.mk (below_step (by repeat (first | (with_reducible first | exact HB.out | apply below_alloc | apply pw_below_drewN | apply below_drew1) | exact HB.out)) hb); clear HO350; clear HB; have HO350 := n0_; have HO355 := n1_; have HB := n2_; clear n0_ n1_ n2_; (try clear hb); (try clear hb2); (try clear hk); (try clear hi); (try clear ho0)))
    (try simp only [Act.put, List.setIfInBounds_toArray, List.set_cons_zero, List.set_cons_succ])
    go_cut [36] (fun v36 wc => ∃ (kq : Nat) (x36_6 : Bool), v36 = .bool x36_6 ∧ Aside0 (leatlaw02_VintMany.j0 kq l0 a1 t348 x36_6 = some r) ∧ Aside0 (kq ≤ k) ∧ Aside0 (Kd.R (Kd.int .u8) 5 wc w.heap.size (fun _ => True) (.slice Ao10 t348.length co10) t348) ∧ Aside0 (Below w.heap.size w wc))
    case first =>
      have H := HC7.out
      clear HC7
      by_cases c12 : t353 = 0
      · rw [if_pos c12] at H
        have c12b0 : (t353 == 0) = true := beq_iff_eq.mpr c12
        have c12b1 : (t353 != 0) = false := bne_eq_false_iff_eq.mpr c12
        clear c12
        (first | rw [c12b0] | (simp only [i64_w, i32_w]; rw [c12b0]) | skip)
        by_cases c13 : t352 = 0
        · rw [if_pos c13] at H
          have c13b0 : (t352 == 0) = true := beq_iff_eq.mpr c13
          have c13b1 : (t352 != 0) = false := bne_eq_false_iff_eq.mpr c13
          clear c13
          replace H := Option.bind_eq_some_iff.mp H
          obtain ⟨t356, A140, H⟩ := H
          replace H : (leatlaw02_VintMany.j0 k l0 a1 t348 (!t356)) = some r := H
          have A14 := Aside0.mk A140
          clear A140
          have H' := Aside0.mk H
          clear H
          obtain ⟨Ao15, co15, eo15⟩ := Kd.R_slice HO355.out
          subst eo15
          go_wp2_with (first | (go_at_call 30; (with_reducible refine (leatlaw02_same.calls k _ _ t351 _ _ l0 t356 _ ?side1 ?side2 ?side3 ?side4 A14.out).mono ?_); (case side1 => repeat (first | exact (Kd.R_reads' HO355.out).2.2 | (with_reducible refine Kd.C_alloc ?_ _) | (with_reducible refine Kd.C_drewN ?_ _) | (with_reducible refine Kd.C_drew ?_))); (case side2 => exact (Kd.R_reads' HO355.out).2.1); (case side3 => repeat (first | exact (Kd.C_below HR0.out HB.out) | (with_reducible refine Kd.C_alloc ?_ _) | (with_reducible refine Kd.C_drewN ?_ _) | (with_reducible refine Kd.C_drew ?_))); (case side4 => exact HC0.out); rintro e w' ⟨rfl, ⟨nd, rfl⟩⟩))
          go_meet
          case rel => exact ⟨_, (!t356), (by first | rfl | (simp; done) | (simp [*]; done)), H', ⟨by first | omega | exact Nat.le_refl _⟩, ⟨by (with_reducible repeat (first | apply Kd.R_alloc | apply Kd.R_drewN | apply Kd.R_drew)); exact HO350.out⟩, ⟨by repeat (first | (with_reducible first | exact HB.out | apply below_alloc | apply pw_below_drewN | apply below_drew1) | exact HB.out)⟩⟩
        · rw [if_neg c13] at H
          have c13b0 : (t352 == 0) = false := beq_eq_false_iff_ne.mpr c13
          have c13b1 : (t352 != 0) = true := bne_iff_ne.mpr c13
          have H' := Aside0.mk H
          clear H
          go_wp2
          go_meet
          case rel => exact ⟨_, (true), (by first | rfl | (simp; done) | (simp [*]; done)), H', ⟨by first | omega | exact Nat.le_refl _⟩, ⟨by (with_reducible repeat (first | apply Kd.R_alloc | apply Kd.R_drewN | apply Kd.R_drew)); exact HO350.out⟩, ⟨by repeat (first | (with_reducible first | exact HB.out | apply below_alloc | apply pw_below_drewN | apply below_drew1) | exact HB.out)⟩⟩
      · rw [if_neg c12] at H
        have c12b0 : (t353 == 0) = false := beq_eq_false_iff_ne.mpr c12
        have c12b1 : (t353 != 0) = true := bne_iff_ne.mpr c12
        (first | rw [c12b0] | (simp only [i64_w, i32_w]; rw [c12b0]) | skip)
        have H' := Aside0.mk H
        clear H
        go_wp2
        go_meet
        case rel => exact ⟨_, (true), (by first | rfl | (simp; done) | (simp [*]; done)), H', ⟨by first | omega | exact Nat.le_refl _⟩, ⟨by (with_reducible repeat (first | apply Kd.R_alloc | apply Kd.R_drewN | apply Kd.R_drew)); exact HO350.out⟩, ⟨by repeat (first | (with_reducible first | exact HB.out | apply below_alloc | apply pw_below_drewN | apply below_drew1) | exact HB.out)⟩⟩
    case rest =>
      clear HC7
      try clear c1
      try clear c2
      try clear p2
      try clear c3
      try clear c4
      try clear c9
      try clear c10
      try clear c12
      try clear c12b0
      try clear c12b1
      try clear c13
      try clear c13b0
      try clear c13b1
      obtain ⟨kq, x36_6, rfl, HA, HJ6, HO_5, HB⟩ := hcut
      cases kq with
      | zero => exact absurd HA.out (by simp [leatlaw02_VintMany.j0])
      | succ kj6 =>
        have H := HA.out
        clear HA
        simp only [leatlaw02_VintMany.j0] at H
        by_cases c16 : x36_6 = true
        · subst c16
          have H1 : (some false) = some r := by rw [if_pos rfl] at H; exact H
          clear H
          have H := H1
          clear H1
          obtain rfl := Option.some.inj H
          go_wp2
          go_ret
          exact ⟨by first | rfl | (simp [errW_none, errW_some] <;> rfl) | (simp [*, errW_none, errW_some] <;> rfl) | (exfalso; simp only [decide_eq_true_eq, decide_eq_false_iff_not] at *; omega), by repeat (first | (with_reducible first | exact HB.out | apply below_alloc | apply pw_below_drewN | apply below_drew1) | exact HB.out)⟩
        · replace c16 := Bool.eq_false_iff.mpr c16
          subst c16
          have H1 : (if a1 < 0 then (leatlaw02_VintMany.j1 kj6 l0 a1 t348 true) else (leatlaw02_VintMany.j1 kj6 l0 a1 t348 (decide (a1 ≥ (t348.length : Int))))) = some r := by rw [if_neg (show ¬ (false = true) by decide)] at H; exact H
          clear H
          have H := H1
          clear H1
          have HC17 := Aside0.mk H
          clear H
          go_upto_region 7 with (fail)
          go_cut [44] (fun v44 wc => ∃ (kq : Nat) (x44_16 : Bool), v44 = .bool x44_16 ∧ Aside0 (leatlaw02_VintMany.j1 kq l0 a1 t348 x44_16 = some r) ∧ Aside0 (kq ≤ kj6) ∧ Aside0 (Kd.R (Kd.int .u8) 5 wc w.heap.size (fun _ => True) (.slice Ao10 t348.length co10) t348) ∧ Aside0 (Below w.heap.size w wc))
          case first =>
            have H := HC17.out
            clear HC17
            by_cases c18 : a1 < 0
            · rw [if_pos c18] at H
              have c18b0 : decide (a1 < 0) = true := decide_eq_true c18
              clear c18
              (first | rw [c18b0] | (simp only [i64_w, i32_w]; rw [c18b0]) | skip)
              have H' := Aside0.mk H
              clear H
              go_wp2
              go_meet
              case rel => exact ⟨_, (true), (by first | rfl | (simp; done) | (simp [*]; done)), H', ⟨by have := HJ6.out; first | omega | exact Nat.le_refl _⟩, ⟨by (with_reducible repeat (first | apply Kd.R_alloc | apply Kd.R_drewN | apply Kd.R_drew)); exact HO_5.out⟩, ⟨by repeat (first | (with_reducible first | exact HB.out | apply below_alloc | apply pw_below_drewN | apply below_drew1) | exact HB.out)⟩⟩
            · rw [if_neg c18] at H
              have c18b0 : decide (a1 < 0) = false := decide_eq_false c18
              clear c18
              (first | rw [c18b0] | (simp only [i64_w, i32_w]; rw [c18b0]) | skip)
              have H' := Aside0.mk H
              clear H
              go_wp2
              go_meet
              case rel => exact ⟨_, (decide (a1 ≥ (t348.length : Int))), (by first | rfl | (simp; done) | (simp [*]; done)), H', ⟨by have := HJ6.out; first | omega | exact Nat.le_refl _⟩, ⟨by (with_reducible repeat (first | apply Kd.R_alloc | apply Kd.R_drewN | apply Kd.R_drew)); exact HO_5.out⟩, ⟨by repeat (first | (with_reducible first | exact HB.out | apply below_alloc | apply pw_below_drewN | apply below_drew1) | exact HB.out)⟩⟩
          case rest =>
            clear HC17
            try clear c1
            try clear c2
            try clear p2
            try clear c3
            try clear c4
            try clear c9
            try clear c10
            try clear c12
            try clear c12b0
            try clear c12b1
            try clear c13
            try clear c13b0
            try clear c13b1
            try clear c16
            try clear c18
            try clear c18b0
            try clear p2
            obtain ⟨kq, x44_16, rfl, HA, HJ16, HO_5, HB⟩ := hcut
            cases kq with
            | zero => exact absurd HA.out (by simp [leatlaw02_VintMany.j1])
            | succ kj16 =>
              have H := HA.out
              clear HA
              simp only [leatlaw02_VintMany.j1] at H
              by_cases c19 : x44_16 = true
              · subst c19
                have H1 : (some true) = some r := by rw [if_pos rfl] at H; exact H
                clear H
                have H := H1
                clear H1
                obtain rfl := Option.some.inj H
                go_wp2
                go_ret
                exact ⟨by first | rfl | (simp [errW_none, errW_some] <;> rfl) | (simp [*, errW_none, errW_some] <;> rfl) | (exfalso; simp only [decide_eq_true_eq, decide_eq_false_iff_not] at *; omega), by repeat (first | (with_reducible first | exact HB.out | apply below_alloc | apply pw_below_drewN | apply below_drew1) | exact HB.out)⟩
              · replace c19 := Bool.eq_false_iff.mpr c19
                subst c19
                have H1 : ((leatref01_Piece.f kj16 t348 0 a1).bind fun t357 => ((vint_GetAll.f kj16 t357).bind fun bt360 => (if bt360.2.2 = 0 then (if bt360.2.1 = 0 then (if (bt360.1.length : Int) < (l0.length : Int) then (if 0 ≤ (bt360.1.length : Int) then (if (bt360.1.length : Int) ≤ (l0.length : Int) then ((leatlaw02_same.f kj16 bt360.1 (l0.take ((bt360.1.length : Int) : Int).toNat)).bind fun t366 => (some t366)) else (none)) else (none)) else (some false)) else (some false)) else (if bt360.2.2 = 1 then (if (bt360.1.length : Int) = 0 then (if bt360.2.1 ≥ a1 then (leatlaw02_VintMany.j2 kj16 l0 t348 bt360.2.1 true) else (leatlaw02_VintMany.j2 kj16 l0 t348 bt360.2.1 (decide (bt360.2.1 < 0)))) else (leatlaw02_VintMany.j2 kj16 l0 t348 bt360.2.1 true)) else (leatlaw02_VintMany.j2 kj16 l0 t348 bt360.2.1 true))))) = some r := by rw [if_neg (show ¬ (false = true) by decide)] at H; exact H
                clear H
                have H := H1
                clear H1
                replace H := Option.bind_eq_some_iff.mp H
                obtain ⟨t357, A200, H⟩ := H
                replace H : ((vint_GetAll.f kj16 t357).bind fun bt360 => (if bt360.2.2 = 0 then (if bt360.2.1 = 0 then (if (bt360.1.length : Int) < (l0.length : Int) then (if 0 ≤ (bt360.1.length : Int) then (if (bt360.1.length : Int) ≤ (l0.length : Int) then ((leatlaw02_same.f kj16 bt360.1 (l0.take ((bt360.1.length : Int) : Int).toNat)).bind fun t366 => (some t366)) else (none)) else (none)) else (some false)) else (some false)) else (if bt360.2.2 = 1 then (if (bt360.1.length : Int) = 0 then (if bt360.2.1 ≥ a1 then (leatlaw02_VintMany.j2 kj16 l0 t348 bt360.2.1 true) else (leatlaw02_VintMany.j2 kj16 l0 t348 bt360.2.1 (decide (bt360.2.1 < 0)))) else (leatlaw02_VintMany.j2 kj16 l0 t348 bt360.2.1 true)) else (leatlaw02_VintMany.j2 kj16 l0 t348 bt360.2.1 true)))) = some r := H
                have A20 := Aside0.mk A200
                clear A200
                replace H := Option.bind_eq_some_iff.mp H
                obtain ⟨⟨t360, t361, t362⟩, A210, H⟩ := H
                replace H : (if t362 = 0 then (if t361 = 0 then (if (t360.length : Int) < (l0.length : Int) then (if 0 ≤ (t360.length : Int) then (if (t360.length : Int) ≤ (l0.length : Int) then ((leatlaw02_same.f kj16 t360 (l0.take ((t360.length : Int) : Int).toNat)).bind fun t366 => (some t366)) else (none)) else (none)) else (some false)) else (some false)) else (if t362 = 1 then (if (t360.length : Int) = 0 then (if t361 ≥ a1 then (leatlaw02_VintMany.j2 kj16 l0 t348 t361 true) else (leatlaw02_VintMany.j2 kj16 l0 t348 t361 (decide (t361 < 0)))) else (leatlaw02_VintMany.j2 kj16 l0 t348 t361 true)) else (leatlaw02_VintMany.j2 kj16 l0 t348 t361 true))) = some r := H
                have A21 := Aside0.mk A210
                clear A210
                by_cases c22 : t362 = 0
                · rw [if_pos c22] at H
                  have c22b0 : (t362 == 0) = true := beq_iff_eq.mpr c22
                  have c22b1 : (t362 != 0) = false := bne_eq_false_iff_eq.mpr c22
                  clear c22
                  by_cases c23 : t361 = 0
                  · rw [if_pos c23] at H
                    have c23b0 : (t361 == 0) = true := beq_iff_eq.mpr c23
                    have c23b1 : (t361 != 0) = false := bne_eq_false_iff_eq.mpr c23
                    clear c23
                    by_cases c24 : (t360.length : Int) < (l0.length : Int)
                    · rw [if_pos c24] at H
                      have c24b0 : decide ((t360.length : Int) < (l0.length : Int)) = true := decide_eq_true c24
                      have c24b1 : decide (t360.length < l0.length) = true := decide_eq_true (Int.ofNat_lt.mp c24)
                      clear c24
                      by_cases c25 : 0 ≤ (t360.length : Int)
                      · rw [if_pos c25] at H
                        have c25b0 := eq_true c25
                        have c25b1 : decide (0 ≤ (t360.length : Int)) = true := decide_eq_true c25
                        clear c25
                        by_cases c26 : (t360.length : Int) ≤ (l0.length : Int)
                        · rw [if_pos c26] at H
                          have c26b0 := eq_true c26
                          have c26b1 : decide ((t360.length : Int) ≤ (l0.length : Int)) = true := decide_eq_true c26
                          clear c26
                          replace H := Option.bind_eq_some_iff.mp H
                          obtain ⟨t366, A270, H⟩ := H
                          replace H : (some t366) = some r := H
                          have A27 := Aside0.mk A270
                          clear A270
                          obtain rfl := Option.some.inj H
                          go_wp2_with (first | ((with_reducible refine gate_callee (f := 16) rfl ?_); refine goesL_ (some 48) rfl rfl Try.func16 (by kernel_rfl) rfl #[.slice Ao10 t348.length co10, .int .i64 0, .int .i64 a1] rfl (by (try simp only [List.map_toArray, List.map_cons, List.map_nil]); first | done | rfl | (simp only [List.length_drop, List.length_take]; rfl)) ?_; (with_reducible refine (leatref01_Piece.calls kj16 _ _ t348 0 a1 t357 _ ?side1 ?side2 A20.out).mono ?_); (case side1 => repeat (first | exact (Kd.R_reads' HO_5.out).2.2 | (with_reducible refine Kd.C_alloc ?_ _) | (with_reducible refine Kd.C_drewN ?_ _) | (with_reducible refine Kd.C_drew ?_))); (case side2 => exact (Kd.R_reads' HO_5.out).2.1); rintro e w28 ⟨v358, rfl, ho0, hb⟩; refine ⟨_, rfl, ?_⟩; have n0_ := Aside0.mk (Kd.R_elder' (by (with_reducible repeat (first | apply Kd.R_alloc | apply Kd.R_drewN | apply Kd.R_drew)); exact HO_5.out) (Kd.R_base ho0) hb); have n1_ := Aside0.mk (Kd.R_lower (Kd.R_new' ho0 (Kd.R_lt (by (with_reducible repeat (first | apply Kd.R_alloc | apply Kd.R_drewN | apply Kd.R_drew)); exact HO_5.out))) (below_size (by repeat (first | (with_reducible first | exact HB.out | apply below_alloc | apply pw_below_drewN | apply below_drew1) | exact HB.out)))); have n2_ := Aside0.mk (below_step (by repeat (first | (with_reducible first | exact HB.out | apply below_alloc | apply pw_below_drewN | apply below_drew1) | exact HB.out)) hb); clear HO_5; clear HB; have HO_5 := n0_; have HO359 := n1_; have HB := n2_; clear n0_ n1_ n2_; (try clear hb); (try clear hb2); (try clear hk); (try clear hi); (try clear ho0); obtain ⟨Ao29, co29, eo29⟩ := Kd.R_slice HO359.out; subst eo29) | ((with_reducible refine gate_callee (f := 32) rfl ?_); refine goesL_ (some 49) rfl rfl Try.func32 (by kernel_rfl) rfl #[.slice Ao29 t357.length co29] rfl (by (try simp only [List.map_toArray, List.map_cons, List.map_nil]); first | done | rfl | (simp only [List.length_drop, List.length_take]; rfl)) ?_; (with_reducible refine (vint_GetAll.calls kj16 _ _ t357 t360 t361 t362 _ ?side1 ?side2 A21.out).mono ?_); (case side1 => repeat (first | exact (Kd.R_reads' HO359.out).2.2 | (with_reducible refine Kd.C_alloc ?_ _) | (with_reducible refine Kd.C_drewN ?_ _) | (with_reducible refine Kd.C_drew ?_))); (case side2 => exact (Kd.R_reads' HO359.out).2.1); rintro e w30 ⟨v363, rfl, ho0, hb⟩; refine ⟨_, rfl, ?_⟩; have n0_ := Aside0.mk (Kd.R_below (by (with_reducible repeat (first | apply Kd.R_alloc | apply Kd.R_drewN | apply Kd.R_drew)); exact HO_5.out) hb); have n1_ := Aside0.mk (Kd.R_below (by (with_reducible repeat (first | apply Kd.R_alloc | apply Kd.R_drewN | apply Kd.R_drew)); exact HO359.out) hb); have n2_ := Aside0.mk (Kd.R_lower ho0 (below_size (by repeat (first | (with_reducible first | exact HB.out | apply below_alloc | apply pw_below_drewN | apply below_drew1) | exact HB.out)))); have n3_ := Aside0.mk (below_step (by repeat (first | (with_reducible first | exact HB.out | apply below_alloc | apply pw_below_drewN | apply below_drew1) | exact HB.out)) hb); clear HO_5; clear HO359; clear HB; have HO_5 := n0_; have HO359 := n1_; have HO364 := n2_; have HB := n3_; clear n0_ n1_ n2_ n3_; (try clear hb); (try clear hb2); (try clear hk); (try clear hi); (try clear ho0); obtain ⟨Ao31, co31, eo31⟩ := Kd.R_slice HO364.out; subst eo31; obtain ⟨i032, hi032, _, hsz32, _⟩ := info_parts info2; obtain ⟨hcut32, hA32, hC32⟩ := print_take_of (P := Try.prog) (Value.int .i64) 0 45 2 .i64 Try.underlying45 hi032 hsz32 A0 c0 l0 (t360.length : Int) (of_decide_eq_true (by first | (with_reducible assumption) | assumption)) (of_decide_eq_true (by first | (with_reducible assumption) | assumption)) HC0.out; have HR365 := Aside0.mk (Kd.C_of_reads (h1 := fun _ => rfl) (hA32 _ (Kd.reads_of_C HR0.out))); have HC365 := Aside0.mk hC32; clear hA32 hC32 hi032 hsz32) | (go_at_call 30; refine calls_of_args (args' := #[.slice Ao31 t360.length co31, .slice A0 (l0.take ((t360.length : Int) : Int).toNat).length c0]) (by first | (simp only [List.length_take, List.length_drop, Int.toNat_natCast]; done) | (simp; done) | rfl) ?_; (with_reducible refine (leatlaw02_same.calls kj16 _ _ t360 _ _ (l0.take ((t360.length : Int) : Int).toNat) t366 _ ?side1 ?side2 ?side3 ?side4 A27.out).mono ?_); (case side1 => repeat (first | exact (Kd.R_reads' HO364.out).2.2 | (with_reducible refine Kd.C_alloc ?_ _) | (with_reducible refine Kd.C_drewN ?_ _) | (with_reducible refine Kd.C_drew ?_))); (case side2 => exact (Kd.R_reads' HO364.out).2.1); (case side3 => repeat (first | exact (Kd.C_below HR365.out HB.out) | (with_reducible refine Kd.C_alloc ?_ _) | (with_reducible refine Kd.C_drewN ?_ _) | (with_reducible refine Kd.C_drew ?_))); (case side4 => exact HC365.out); rintro e w' ⟨rfl, ⟨nd, rfl⟩⟩))
                          go_ret
                          exact ⟨by first | rfl | (simp [errW_none, errW_some] <;> rfl) | (simp [*, errW_none, errW_some] <;> rfl) | (exfalso; simp only [decide_eq_true_eq, decide_eq_false_iff_not] at *; omega), by repeat (first | (with_reducible first | exact HB.out | apply below_alloc | apply pw_below_drewN | apply below_drew1) | exact HB.out)⟩
                        · rw [if_neg c26] at H
                          exact absurd H (by simp)
                      · rw [if_neg c25] at H
                        exact absurd H (by simp)
                    · rw [if_neg c24] at H
                      have c24b0 : decide ((t360.length : Int) < (l0.length : Int)) = false := decide_eq_false c24
                      have c24b1 : decide (t360.length < l0.length) = false := decide_eq_false (fun h => c24 (Int.ofNat_lt.mpr h))
                      clear c24
                      obtain rfl := Option.some.inj H
                      go_wp2_with (first | ((with_reducible refine gate_callee (f := 16) rfl ?_); refine goesL_ (some 48) rfl rfl Try.func16 (by kernel_rfl) rfl #[.slice Ao10 t348.length co10, .int .i64 0, .int .i64 a1] rfl (by (try simp only [List.map_toArray, List.map_cons, List.map_nil]); first | done | rfl | (simp only [List.length_drop, List.length_take]; rfl)) ?_; (with_reducible refine (leatref01_Piece.calls kj16 _ _ t348 0 a1 t357 _ ?side1 ?side2 A20.out).mono ?_); (case side1 => repeat (first | exact (Kd.R_reads' HO_5.out).2.2 | (with_reducible refine Kd.C_alloc ?_ _) | (with_reducible refine Kd.C_drewN ?_ _) | (with_reducible refine Kd.C_drew ?_))); (case side2 => exact (Kd.R_reads' HO_5.out).2.1); rintro e w33 ⟨v358, rfl, ho0, hb⟩; refine ⟨_, rfl, ?_⟩; have n0_ := Aside0.mk (Kd.R_elder' (by (with_reducible repeat (first | apply Kd.R_alloc | apply Kd.R_drewN | apply Kd.R_drew)); exact HO_5.out) (Kd.R_base ho0) hb); have n1_ := Aside0.mk (Kd.R_lower (Kd.R_new' ho0 (Kd.R_lt (by (with_reducible repeat (first | apply Kd.R_alloc | apply Kd.R_drewN | apply Kd.R_drew)); exact HO_5.out))) (below_size (by repeat (first | (with_reducible first | exact HB.out | apply below_alloc | apply pw_below_drewN | apply below_drew1) | exact HB.out)))); have n2_ := Aside0.mk (below_step (by repeat (first | (with_reducible first | exact HB.out | apply below_alloc | apply pw_below_drewN | apply below_drew1) | exact HB.out)) hb); clear HO_5; clear HB; have HO_5 := n0_; have HO359 := n1_; have HB := n2_; clear n0_ n1_ n2_; (try clear hb); (try clear hb2); (try clear hk); (try clear hi); (try clear ho0); obtain ⟨Ao34, co34, eo34⟩ := Kd.R_slice HO359.out; subst eo34) | ((with_reducible refine gate_callee (f := 32) rfl ?_); refine goesL_ (some 49) rfl rfl Try.func32 (by kernel_rfl) rfl #[.slice Ao34 t357.length co34] rfl (by (try simp only [List.map_toArray, List.map_cons, List.map_nil]); first | done | rfl | (simp only [List.length_drop, List.length_take]; rfl)) ?_; (with_reducible refine (vint_GetAll.calls kj16 _ _ t357 t360 t361 t362 _ ?side1 ?side2 A21.out).mono ?_); (case side1 => repeat (first | exact (Kd.R_reads' HO359.out).2.2 | (with_reducible refine Kd.C_alloc ?_ _) | (with_reducible refine Kd.C_drewN ?_ _) | (with_reducible refine Kd.C_drew ?_))); (case side2 => exact (Kd.R_reads' HO359.out).2.1); rintro e w35 ⟨v363, rfl, ho0, hb⟩; refine ⟨_, rfl, ?_⟩; have n0_ := Aside0.mk (Kd.R_below (by (with_reducible repeat (first | apply Kd.R_alloc | apply Kd.R_drewN | apply Kd.R_drew)); exact HO_5.out) hb); have n1_ := Aside0.mk (Kd.R_below (by (with_reducible repeat (first | apply Kd.R_alloc | apply Kd.R_drewN | apply Kd.R_drew)); exact HO359.out) hb); have n2_ := Aside0.mk (Kd.R_lower ho0 (below_size (by repeat (first | (with_reducible first | exact HB.out | apply below_alloc | apply pw_below_drewN | apply below_drew1) | exact HB.out)))); have n3_ := Aside0.mk (below_step (by repeat (first | (with_reducible first | exact HB.out | apply below_alloc | apply pw_below_drewN | apply below_drew1) | exact HB.out)) hb); clear HO_5; clear HO359; clear HB; have HO_5 := n0_; have HO359 := n1_; have HO364 := n2_; have HB := n3_; clear n0_ n1_ n2_ n3_; (try clear hb); (try clear hb2); (try clear hk); (try clear hi); (try clear ho0); obtain ⟨Ao36, co36, eo36⟩ := Kd.R_slice HO364.out; subst eo36))
                      go_ret
                      exact ⟨by first | rfl | (simp [errW_none, errW_some] <;> rfl) | (simp [*, errW_none, errW_some] <;> rfl) | (exfalso; simp only [decide_eq_true_eq, decide_eq_false_iff_not] at *; omega), by repeat (first | (with_reducible first | exact HB.out | apply below_alloc | apply pw_below_drewN | apply below_drew1) | exact HB.out)⟩
                  · rw [if_neg c23] at H
                    have c23b0 : (t361 == 0) = false := beq_eq_false_iff_ne.mpr c23
                    have c23b1 : (t361 != 0) = true := bne_iff_ne.mpr c23
                    obtain rfl := Option.some.inj H
                    go_wp2_with (first | ((with_reducible refine gate_callee (f := 16) rfl ?_); refine goesL_ (some 48) rfl rfl Try.func16 (by kernel_rfl) rfl #[.slice Ao10 t348.length co10, .int .i64 0, .int .i64 a1] rfl (by (try simp only [List.map_toArray, List.map_cons, List.map_nil]); first | done | rfl | (simp only [List.length_drop, List.length_take]; rfl)) ?_; (with_reducible refine (leatref01_Piece.calls kj16 _ _ t348 0 a1 t357 _ ?side1 ?side2 A20.out).mono ?_); (case side1 => repeat (first | exact (Kd.R_reads' HO_5.out).2.2 | (with_reducible refine Kd.C_alloc ?_ _) | (with_reducible refine Kd.C_drewN ?_ _) | (with_reducible refine Kd.C_drew ?_))); (case side2 => exact (Kd.R_reads' HO_5.out).2.1); rintro e w37 ⟨v358, rfl, ho0, hb⟩; refine ⟨_, rfl, ?_⟩; have n0_ := Aside0.mk (Kd.R_elder' (by (with_reducible repeat (first | apply Kd.R_alloc | apply Kd.R_drewN | apply Kd.R_drew)); exact HO_5.out) (Kd.R_base ho0) hb); have n1_ := Aside0.mk (Kd.R_lower (Kd.R_new' ho0 (Kd.R_lt (by (with_reducible repeat (first | apply Kd.R_alloc | apply Kd.R_drewN | apply Kd.R_drew)); exact HO_5.out))) (below_size (by repeat (first | (with_reducible first | exact HB.out | apply below_alloc | apply pw_below_drewN | apply below_drew1) | exact HB.out)))); have n2_ := Aside0.mk (below_step (by repeat (first | (with_reducible first | exact HB.out | apply below_alloc | apply pw_below_drewN | apply below_drew1) | exact HB.out)) hb); clear HO_5; clear HB; have HO_5 := n0_; have HO359 := n1_; have HB := n2_; clear n0_ n1_ n2_; (try clear hb); (try clear hb2); (try clear hk); (try clear hi); (try clear ho0); obtain ⟨Ao38, co38, eo38⟩ := Kd.R_slice HO359.out; subst eo38) | ((with_reducible refine gate_callee (f := 32) rfl ?_); refine goesL_ (some 49) rfl rfl Try.func32 (by kernel_rfl) rfl #[.slice Ao38 t357.length co38] rfl (by (try simp only [List.map_toArray, List.map_cons, List.map_nil]); first | done | rfl | (simp only [List.length_drop, List.length_take]; rfl)) ?_; (with_reducible refine (vint_GetAll.calls kj16 _ _ t357 t360 t361 t362 _ ?side1 ?side2 A21.out).mono ?_); (case side1 => repeat (first | exact (Kd.R_reads' HO359.out).2.2 | (with_reducible refine Kd.C_alloc ?_ _) | (with_reducible refine Kd.C_drewN ?_ _) | (with_reducible refine Kd.C_drew ?_))); (case side2 => exact (Kd.R_reads' HO359.out).2.1); rintro e w39 ⟨v363, rfl, ho0, hb⟩; refine ⟨_, rfl, ?_⟩; have n0_ := Aside0.mk (Kd.R_below (by (with_reducible repeat (first | apply Kd.R_alloc | apply Kd.R_drewN | apply Kd.R_drew)); exact HO_5.out) hb); have n1_ := Aside0.mk (Kd.R_below (by (with_reducible repeat (first | apply Kd.R_alloc | apply Kd.R_drewN | apply Kd.R_drew)); exact HO359.out) hb); have n2_ := Aside0.mk (Kd.R_lower ho0 (below_size (by repeat (first | (with_reducible first | exact HB.out | apply below_alloc | apply pw_below_drewN | apply below_drew1) | exact HB.out)))); have n3_ := Aside0.mk (below_step (by repeat (first | (with_reducible first | exact HB.out | apply below_alloc | apply pw_below_drewN | apply below_drew1) | exact HB.out)) hb); clear HO_5; clear HO359; clear HB; have HO_5 := n0_; have HO359 := n1_; have HO364 := n2_; have HB := n3_; clear n0_ n1_ n2_ n3_; (try clear hb); (try clear hb2); (try clear hk); (try clear hi); (try clear ho0)))
                    go_ret
                    exact ⟨by first | rfl | (simp [errW_none, errW_some] <;> rfl) | (simp [*, errW_none, errW_some] <;> rfl) | (exfalso; simp only [decide_eq_true_eq, decide_eq_false_iff_not] at *; omega), by repeat (first | (with_reducible first | exact HB.out | apply below_alloc | apply pw_below_drewN | apply below_drew1) | exact HB.out)⟩
                · rw [if_neg c22] at H
                  have c22b0 : (t362 == 0) = false := beq_eq_false_iff_ne.mpr c22
                  have c22b1 : (t362 != 0) = true := bne_iff_ne.mpr c22
                  have HC40 := Aside0.mk H
                  clear H
                  go_upto_region 12 with (first | ((with_reducible refine gate_callee (f := 16) rfl ?_); refine goesL_ (some 48) rfl rfl Try.func16 (by kernel_rfl) rfl #[.slice Ao10 t348.length co10, .int .i64 0, .int .i64 a1] rfl (by (try simp only [List.map_toArray, List.map_cons, List.map_nil]); first | done | rfl | (simp only [List.length_drop, List.length_take]; rfl)) ?_; (with_reducible refine (leatref01_Piece.calls kj16 _ _ t348 0 a1 t357 _ ?side1 ?side2 A20.out).mono ?_); (case side1 => repeat (first | exact (Kd.R_reads' HO_5.out).2.2 | (with_reducible refine Kd.C_alloc ?_ _) | (with_reducible refine Kd.C_drewN ?_ _) | (with_reducible refine Kd.C_drew ?_))); (case side2 => exact (Kd.R_reads' HO_5.out).2.1); rintro e w41 ⟨v358, rfl, ho0, hb⟩; refine ⟨_, rfl, ?_⟩; have n0_ := Aside0.mk (Kd.R_elder' (by (with_reducible repeat (first | apply Kd.R_alloc | apply Kd.R_drewN | apply Kd.R_drew)); exact HO_5.out) (Kd.R_base ho0) hb); have n1_ := Aside0.mk (Kd.R_lower (Kd.R_new' ho0 (Kd.R_lt (by (with_reducible repeat (first | apply Kd.R_alloc | apply Kd.R_drewN | apply Kd.R_drew)); exact HO_5.out))) (below_size (by repeat (first | (with_reducible first | exact HB.out | apply below_alloc | apply pw_below_drewN | apply below_drew1) | exact HB.out)))); have n2_ := Aside0.mk (below_step (by repeat (first | (with_reducible first | exact HB.out | apply below_alloc | apply pw_below_drewN | apply below_drew1) | exact HB.out)) hb); clear HO_5; clear HB; have HO_5 := n0_; have HO359 := n1_; have HB := n2_; clear n0_ n1_ n2_; (try clear hb); (try clear hb2); (try clear hk); (try clear hi); (try clear ho0); obtain ⟨Ao42, co42, eo42⟩ := Kd.R_slice HO359.out; subst eo42) | ((with_reducible refine gate_callee (f := 32) rfl ?_); refine goesL_ (some 49) rfl rfl Try.func32 (by kernel_rfl) rfl #[.slice Ao42 t357.length co42] rfl (by (try simp only [List.map_toArray, List.map_cons, List.map_nil]); first | done | rfl | (simp only [List.length_drop, List.length_take]; rfl)) ?_; (with_reducible refine (vint_GetAll.calls kj16 _ _ t357 t360 t361 t362 _ ?side1 ?side2 A21.out).mono ?_); (case side1 => repeat (first | exact (Kd.R_reads' HO359.out).2.2 | (with_reducible refine Kd.C_alloc ?_ _) | (with_reducible refine Kd.C_drewN ?_ _) | (with_reducible refine Kd.C_drew ?_))); (case side2 => exact (Kd.R_reads' HO359.out).2.1); rintro e w43 ⟨v363, rfl, ho0, hb⟩; refine ⟨_, rfl, ?_⟩; have n0_ := Aside0.mk (Kd.R_below (by (with_reducible repeat (first | apply Kd.R_alloc | apply Kd.R_drewN | apply Kd.R_drew)); exact HO_5.out) hb); have n1_ := Aside0.mk (Kd.R_below (by (with_reducible repeat (first | apply Kd.R_alloc | apply Kd.R_drewN | apply Kd.R_drew)); exact HO359.out) hb); have n2_ := Aside0.mk (Kd.R_lower ho0 (below_size (by repeat (first | (with_reducible first | exact HB.out | apply below_alloc | apply pw_below_drewN | apply below_drew1) | exact HB.out)))); have n3_ := Aside0.mk (below_step (by repeat (first | (with_reducible first | exact HB.out | apply below_alloc | apply pw_below_drewN | apply below_drew1) | exact HB.out)) hb); clear HO_5; clear HO359; clear HB; have HO_5 := n0_; have HO359 := n1_; have HO364 := n2_; have HB := n3_; clear n0_ n1_ n2_ n3_; (try clear hb); (try clear hb2); (try clear hk); (try clear hi); (try clear ho0)))
                  (try simp only [Act.put, List.setIfInBounds_toArray, List.set_cons_zero, List.set_cons_succ])
                  go_cut [87] (fun v87 wc => ∃ (kq : Nat) (x87_39 : Bool), v87 = .bool x87_39 ∧ Aside0 (leatlaw02_VintMany.j2 kq l0 t348 t361 x87_39 = some r) ∧ Aside0 (kq ≤ kj16) ∧ Aside0 (Kd.R (Kd.int .u8) 5 wc w.heap.size (fun _ => True) (.slice Ao10 t348.length co10) t348) ∧ Aside0 (Below w.heap.size w wc))
                  case first =>
                    have H := HC40.out
                    clear HC40
                    by_cases c44 : t362 = 1
                    · rw [if_pos c44] at H
                      have c44b0 : (t362 == 1) = true := beq_iff_eq.mpr c44
                      have c44b1 : (t362 != 1) = false := bne_eq_false_iff_eq.mpr c44
                      clear c44
                      (first | rw [c44b0] | (simp only [i64_w, i32_w]; rw [c44b0]) | skip)
                      by_cases c45 : (t360.length : Int) = 0
                      · rw [if_pos c45] at H
                        have c45b0 : ((t360.length : Int) == 0) = true := beq_iff_eq.mpr c45
                        have c45b1 : ((t360.length : Int) != 0) = false := bne_eq_false_iff_eq.mpr c45
                        clear c45
                        by_cases c46 : t361 ≥ a1
                        · rw [if_pos c46] at H
                          have c46b0 : decide (a1 ≤ t361) = true := decide_eq_true c46
                          clear c46
                          have H' := Aside0.mk H
                          clear H
                          obtain ⟨Ao47, co47, eo47⟩ := Kd.R_slice HO364.out
                          subst eo47
                          go_wp2
                          go_meet
                          case rel => exact ⟨_, (true), (by first | rfl | (simp; done) | (simp [*]; done)), H', ⟨by have := HJ6.out; have := HJ16.out; first | omega | exact Nat.le_refl _⟩, ⟨by (with_reducible repeat (first | apply Kd.R_alloc | apply Kd.R_drewN | apply Kd.R_drew)); exact Kd.R_mono HO_5.out (fun _ hk => trivial)⟩, ⟨by repeat (first | (with_reducible first | exact HB.out | apply below_alloc | apply pw_below_drewN | apply below_drew1) | exact HB.out)⟩⟩
                        · rw [if_neg c46] at H
                          have c46b0 : decide (a1 ≤ t361) = false := decide_eq_false c46
                          clear c46
                          have H' := Aside0.mk H
                          clear H
                          obtain ⟨Ao48, co48, eo48⟩ := Kd.R_slice HO364.out
                          subst eo48
                          go_wp2
                          go_meet
                          case rel => exact ⟨_, (decide (t361 < 0)), (by first | rfl | (simp; done) | (simp [*]; done)), H', ⟨by have := HJ6.out; have := HJ16.out; first | omega | exact Nat.le_refl _⟩, ⟨by (with_reducible repeat (first | apply Kd.R_alloc | apply Kd.R_drewN | apply Kd.R_drew)); exact Kd.R_mono HO_5.out (fun _ hk => trivial)⟩, ⟨by repeat (first | (with_reducible first | exact HB.out | apply below_alloc | apply pw_below_drewN | apply below_drew1) | exact HB.out)⟩⟩
                      · rw [if_neg c45] at H
                        have c45b0 : ((t360.length : Int) == 0) = false := beq_eq_false_iff_ne.mpr c45
                        have c45b1 : ((t360.length : Int) != 0) = true := bne_iff_ne.mpr c45
                        have c45b2 : ¬ (t360 = []) := fun h_ => c45 (by rw [h_]; rfl)
                        have H' := Aside0.mk H
                        clear H
                        obtain ⟨Ao49, co49, eo49⟩ := Kd.R_slice HO364.out
                        subst eo49
                        go_wp2
                        go_meet
                        case rel => exact ⟨_, (true), (by first | rfl | (simp; done) | (simp [*]; done)), H', ⟨by have := HJ6.out; have := HJ16.out; first | omega | exact Nat.le_refl _⟩, ⟨by (with_reducible repeat (first | apply Kd.R_alloc | apply Kd.R_drewN | apply Kd.R_drew)); exact Kd.R_mono HO_5.out (fun _ hk => trivial)⟩, ⟨by repeat (first | (with_reducible first | exact HB.out | apply below_alloc | apply pw_below_drewN | apply below_drew1) | exact HB.out)⟩⟩
                    · rw [if_neg c44] at H
                      have c44b0 : (t362 == 1) = false := beq_eq_false_iff_ne.mpr c44
                      have c44b1 : (t362 != 1) = true := bne_iff_ne.mpr c44
                      (first | rw [c44b0] | (simp only [i64_w, i32_w]; rw [c44b0]) | skip)
                      have H' := Aside0.mk H
                      clear H
                      go_wp2
                      go_meet
                      case rel => exact ⟨_, (true), (by first | rfl | (simp; done) | (simp [*]; done)), H', ⟨by have := HJ6.out; have := HJ16.out; first | omega | exact Nat.le_refl _⟩, ⟨by (with_reducible repeat (first | apply Kd.R_alloc | apply Kd.R_drewN | apply Kd.R_drew)); exact Kd.R_mono HO_5.out (fun _ hk => trivial)⟩, ⟨by repeat (first | (with_reducible first | exact HB.out | apply below_alloc | apply pw_below_drewN | apply below_drew1) | exact HB.out)⟩⟩
                  case rest =>
                    clear HC40
                    try clear c1
                    try clear c2
                    try clear p2
                    try clear c3
                    try clear c4
                    try clear c9
                    try clear c10
                    try clear c12
                    try clear c12b0
                    try clear c12b1
                    try clear c13
                    try clear c13b0
                    try clear c13b1
                    try clear c16
                    try clear c18
                    try clear c18b0
                    try clear c19
                    try clear c22
                    try clear c22b0
                    try clear c22b1
                    try clear c23
                    try clear c23b0
                    try clear c23b1
                    try clear c24
                    try clear c24b0
                    try clear c24b1
                    try clear c25
                    try clear c25b0
                    try clear c25b1
                    try clear c26
                    try clear c26b0
                    try clear c26b1
                    try clear c28
                    try clear c32
                    try clear c44
                    try clear c44b0
                    try clear c44b1
                    try clear c45
                    try clear c45b0
                    try clear c45b1
                    try clear c45b2
                    try clear c46
                    try clear c46b0
                    try clear p2
                    obtain ⟨kq, x87_39, rfl, HA, HJ39, HO_5, HB⟩ := hcut
                    cases kq with
                    | zero => exact absurd HA.out (by simp [leatlaw02_VintMany.j2])
                    | succ kj39 =>
                      have H := HA.out
                      clear HA
                      simp only [leatlaw02_VintMany.j2] at H
                      by_cases c50 : x87_39 = true
                      · subst c50
                        have H1 : (some false) = some r := by rw [if_pos rfl] at H; exact H
                        clear H
                        have H := H1
                        clear H1
                        obtain rfl := Option.some.inj H
                        go_wp2
                        go_ret
                        exact ⟨by first | rfl | (simp [errW_none, errW_some] <;> rfl) | (simp [*, errW_none, errW_some] <;> rfl) | (exfalso; simp only [decide_eq_true_eq, decide_eq_false_iff_not] at *; omega), by repeat (first | (with_reducible first | exact HB.out | apply below_alloc | apply pw_below_drewN | apply below_drew1) | exact HB.out)⟩
                      · replace c50 := Bool.eq_false_iff.mpr c50
                        subst c50
                        have H1 : ((leatref01_Piece.f kj39 t348 0 t361).bind fun t367 => ((vint_GetAll.f kj39 t367).bind fun bt370 => (if bt370.2.2 = 0 then (if (bt370.1.length : Int) < (l0.length : Int) then (if 0 ≤ (bt370.1.length : Int) then (if (bt370.1.length : Int) ≤ (l0.length : Int) then ((leatlaw02_same.f kj39 bt370.1 (l0.take ((bt370.1.length : Int) : Int).toNat)).bind fun t376 => (some t376)) else (none)) else (none)) else (some false)) else (some false)))) = some r := by rw [if_neg (show ¬ (false = true) by decide)] at H; exact H
                        clear H
                        have H := H1
                        clear H1
                        replace H := Option.bind_eq_some_iff.mp H
                        obtain ⟨t367, A510, H⟩ := H
                        replace H : ((vint_GetAll.f kj39 t367).bind fun bt370 => (if bt370.2.2 = 0 then (if (bt370.1.length : Int) < (l0.length : Int) then (if 0 ≤ (bt370.1.length : Int) then (if (bt370.1.length : Int) ≤ (l0.length : Int) then ((leatlaw02_same.f kj39 bt370.1 (l0.take ((bt370.1.length : Int) : Int).toNat)).bind fun t376 => (some t376)) else (none)) else (none)) else (some false)) else (some false))) = some r := H
                        have A51 := Aside0.mk A510
                        clear A510
                        replace H := Option.bind_eq_some_iff.mp H
                        obtain ⟨⟨t370, t371, t372⟩, A520, H⟩ := H
                        replace H : (if t372 = 0 then (if (t370.length : Int) < (l0.length : Int) then (if 0 ≤ (t370.length : Int) then (if (t370.length : Int) ≤ (l0.length : Int) then ((leatlaw02_same.f kj39 t370 (l0.take ((t370.length : Int) : Int).toNat)).bind fun t376 => (some t376)) else (none)) else (none)) else (some false)) else (some false)) = some r := H
                        have A52 := Aside0.mk A520
                        clear A520
                        by_cases c53 : t372 = 0
                        · rw [if_pos c53] at H
                          have c53b0 : (t372 == 0) = true := beq_iff_eq.mpr c53
                          have c53b1 : (t372 != 0) = false := bne_eq_false_iff_eq.mpr c53
                          clear c53
                          by_cases c54 : (t370.length : Int) < (l0.length : Int)
                          · rw [if_pos c54] at H
                            have c54b0 : decide ((t370.length : Int) < (l0.length : Int)) = true := decide_eq_true c54
                            have c54b1 : decide (t370.length < l0.length) = true := decide_eq_true (Int.ofNat_lt.mp c54)
                            clear c54
                            by_cases c55 : 0 ≤ (t370.length : Int)
                            · rw [if_pos c55] at H
                              have c55b0 := eq_true c55
                              have c55b1 : decide (0 ≤ (t370.length : Int)) = true := decide_eq_true c55
                              clear c55
                              by_cases c56 : (t370.length : Int) ≤ (l0.length : Int)
                              · rw [if_pos c56] at H
                                have c56b0 := eq_true c56
                                have c56b1 : decide ((t370.length : Int) ≤ (l0.length : Int)) = true := decide_eq_true c56
                                clear c56
                                replace H := Option.bind_eq_some_iff.mp H
                                obtain ⟨t376, A570, H⟩ := H
                                replace H : (some t376) = some r := H
                                have A57 := Aside0.mk A570
                                clear A570
                                obtain rfl := Option.some.inj H
                                go_wp2_with (first | ((with_reducible refine gate_callee (f := 16) rfl ?_); refine goesL_ (some 91) rfl rfl Try.func16 (by kernel_rfl) rfl #[.slice Ao10 t348.length co10, .int .i64 0, .int .i64 t361] rfl (by (try simp only [List.map_toArray, List.map_cons, List.map_nil]); first | done | rfl | (simp only [List.length_drop, List.length_take]; rfl)) ?_; (with_reducible refine (leatref01_Piece.calls kj39 _ _ t348 0 t361 t367 _ ?side1 ?side2 A51.out).mono ?_); (case side1 => repeat (first | exact (Kd.R_reads' HO_5.out).2.2 | (with_reducible refine Kd.C_alloc ?_ _) | (with_reducible refine Kd.C_drewN ?_ _) | (with_reducible refine Kd.C_drew ?_))); (case side2 => exact (Kd.R_reads' HO_5.out).2.1); rintro e w58 ⟨v368, rfl, ho0, hb⟩; refine ⟨_, rfl, ?_⟩; have n0_ := Aside0.mk (Kd.R_elder' (by (with_reducible repeat (first | apply Kd.R_alloc | apply Kd.R_drewN | apply Kd.R_drew)); exact HO_5.out) (Kd.R_base ho0) hb); have n1_ := Aside0.mk (Kd.R_lower (Kd.R_new' ho0 (Kd.R_lt (by (with_reducible repeat (first | apply Kd.R_alloc | apply Kd.R_drewN | apply Kd.R_drew)); exact HO_5.out))) (below_size (by repeat (first | (with_reducible first | exact HB.out | apply below_alloc | apply pw_below_drewN | apply below_drew1) | exact HB.out)))); have n2_ := Aside0.mk (below_step (by repeat (first | (with_reducible first | exact HB.out | apply below_alloc | apply pw_below_drewN | apply below_drew1) | exact HB.out)) hb); clear HO_5; clear HB; have HO_5 := n0_; have HO369 := n1_; have HB := n2_; clear n0_ n1_ n2_; (try clear hb); (try clear hb2); (try clear hk); (try clear hi); (try clear ho0); obtain ⟨Ao59, co59, eo59⟩ := Kd.R_slice HO369.out; subst eo59) | ((with_reducible refine gate_callee (f := 32) rfl ?_); refine goesL_ (some 92) rfl rfl Try.func32 (by kernel_rfl) rfl #[.slice Ao59 t367.length co59] rfl (by (try simp only [List.map_toArray, List.map_cons, List.map_nil]); first | done | rfl | (simp only [List.length_drop, List.length_take]; rfl)) ?_; (with_reducible refine (vint_GetAll.calls kj39 _ _ t367 t370 t371 t372 _ ?side1 ?side2 A52.out).mono ?_); (case side1 => repeat (first | exact (Kd.R_reads' HO369.out).2.2 | (with_reducible refine Kd.C_alloc ?_ _) | (with_reducible refine Kd.C_drewN ?_ _) | (with_reducible refine Kd.C_drew ?_))); (case side2 => exact (Kd.R_reads' HO369.out).2.1); rintro e w60 ⟨v373, rfl, ho0, hb⟩; refine ⟨_, rfl, ?_⟩; have n0_ := Aside0.mk (Kd.R_below (by (with_reducible repeat (first | apply Kd.R_alloc | apply Kd.R_drewN | apply Kd.R_drew)); exact HO_5.out) hb); have n1_ := Aside0.mk (Kd.R_below (by (with_reducible repeat (first | apply Kd.R_alloc | apply Kd.R_drewN | apply Kd.R_drew)); exact HO369.out) hb); have n2_ := Aside0.mk (Kd.R_lower ho0 (below_size (by repeat (first | (with_reducible first | exact HB.out | apply below_alloc | apply pw_below_drewN | apply below_drew1) | exact HB.out)))); have n3_ := Aside0.mk (below_step (by repeat (first | (with_reducible first | exact HB.out | apply below_alloc | apply pw_below_drewN | apply below_drew1) | exact HB.out)) hb); clear HO_5; clear HO369; clear HB; have HO_5 := n0_; have HO369 := n1_; have HO374 := n2_; have HB := n3_; clear n0_ n1_ n2_ n3_; (try clear hb); (try clear hb2); (try clear hk); (try clear hi); (try clear ho0); obtain ⟨Ao61, co61, eo61⟩ := Kd.R_slice HO374.out; subst eo61; obtain ⟨i062, hi062, _, hsz62, _⟩ := info_parts info2; obtain ⟨hcut62, hA62, hC62⟩ := print_take_of (P := Try.prog) (Value.int .i64) 0 45 2 .i64 Try.underlying45 hi062 hsz62 A0 c0 l0 (t370.length : Int) (of_decide_eq_true (by first | (with_reducible assumption) | assumption)) (of_decide_eq_true (by first | (with_reducible assumption) | assumption)) HC0.out; have HR375 := Aside0.mk (Kd.C_of_reads (h1 := fun _ => rfl) (hA62 _ (Kd.reads_of_C HR0.out))); have HC375 := Aside0.mk hC62; clear hA62 hC62 hi062 hsz62) | (go_at_call 30; refine calls_of_args (args' := #[.slice Ao61 t370.length co61, .slice A0 (l0.take ((t370.length : Int) : Int).toNat).length c0]) (by first | (simp only [List.length_take, List.length_drop, Int.toNat_natCast]; done) | (simp; done) | rfl) ?_; (with_reducible refine (leatlaw02_same.calls kj39 _ _ t370 _ _ (l0.take ((t370.length : Int) : Int).toNat) t376 _ ?side1 ?side2 ?side3 ?side4 A57.out).mono ?_); (case side1 => repeat (first | exact (Kd.R_reads' HO374.out).2.2 | (with_reducible refine Kd.C_alloc ?_ _) | (with_reducible refine Kd.C_drewN ?_ _) | (with_reducible refine Kd.C_drew ?_))); (case side2 => exact (Kd.R_reads' HO374.out).2.1); (case side3 => repeat (first | exact (Kd.C_below HR375.out HB.out) | (with_reducible refine Kd.C_alloc ?_ _) | (with_reducible refine Kd.C_drewN ?_ _) | (with_reducible refine Kd.C_drew ?_))); (case side4 => exact HC375.out); rintro e w' ⟨rfl, ⟨nd, rfl⟩⟩))
                                go_ret
                                exact ⟨by first | rfl | (simp [errW_none, errW_some] <;> rfl) | (simp [*, errW_none, errW_some] <;> rfl) | (exfalso; simp only [decide_eq_true_eq, decide_eq_false_iff_not] at *; omega), by repeat (first | (with_reducible first | exact HB.out | apply below_alloc | apply pw_below_drewN | apply below_drew1) | exact HB.out)⟩
                              · rw [if_neg c56] at H
                                exact absurd H (by simp)
                            · rw [if_neg c55] at H
                              exact absurd H (by simp)
                          · rw [if_neg c54] at H
                            have c54b0 : decide ((t370.length : Int) < (l0.length : Int)) = false := decide_eq_false c54
                            have c54b1 : decide (t370.length < l0.length) = false := decide_eq_false (fun h => c54 (Int.ofNat_lt.mpr h))
                            clear c54
                            obtain rfl := Option.some.inj H
                            go_wp2_with (first | ((with_reducible refine gate_callee (f := 16) rfl ?_); refine goesL_ (some 91) rfl rfl Try.func16 (by kernel_rfl) rfl #[.slice Ao10 t348.length co10, .int .i64 0, .int .i64 t361] rfl (by (try simp only [List.map_toArray, List.map_cons, List.map_nil]); first | done | rfl | (simp only [List.length_drop, List.length_take]; rfl)) ?_; (with_reducible refine (leatref01_Piece.calls kj39 _ _ t348 0 t361 t367 _ ?side1 ?side2 A51.out).mono ?_); (case side1 => repeat (first | exact (Kd.R_reads' HO_5.out).2.2 | (with_reducible refine Kd.C_alloc ?_ _) | (with_reducible refine Kd.C_drewN ?_ _) | (with_reducible refine Kd.C_drew ?_))); (case side2 => exact (Kd.R_reads' HO_5.out).2.1); rintro e w63 ⟨v368, rfl, ho0, hb⟩; refine ⟨_, rfl, ?_⟩; have n0_ := Aside0.mk (Kd.R_elder' (by (with_reducible repeat (first | apply Kd.R_alloc | apply Kd.R_drewN | apply Kd.R_drew)); exact HO_5.out) (Kd.R_base ho0) hb); have n1_ := Aside0.mk (Kd.R_lower (Kd.R_new' ho0 (Kd.R_lt (by (with_reducible repeat (first | apply Kd.R_alloc | apply Kd.R_drewN | apply Kd.R_drew)); exact HO_5.out))) (below_size (by repeat (first | (with_reducible first | exact HB.out | apply below_alloc | apply pw_below_drewN | apply below_drew1) | exact HB.out)))); have n2_ := Aside0.mk (below_step (by repeat (first | (with_reducible first | exact HB.out | apply below_alloc | apply pw_below_drewN | apply below_drew1) | exact HB.out)) hb); clear HO_5; clear HB; have HO_5 := n0_; have HO369 := n1_; have HB := n2_; clear n0_ n1_ n2_; (try clear hb); (try clear hb2); (try clear hk); (try clear hi); (try clear ho0); obtain ⟨Ao64, co64, eo64⟩ := Kd.R_slice HO369.out; subst eo64) | ((with_reducible refine gate_callee (f := 32) rfl ?_); refine goesL_ (some 92) rfl rfl Try.func32 (by kernel_rfl) rfl #[.slice Ao64 t367.length co64] rfl (by (try simp only [List.map_toArray, List.map_cons, List.map_nil]); first | done | rfl | (simp only [List.length_drop, List.length_take]; rfl)) ?_; (with_reducible refine (vint_GetAll.calls kj39 _ _ t367 t370 t371 t372 _ ?side1 ?side2 A52.out).mono ?_); (case side1 => repeat (first | exact (Kd.R_reads' HO369.out).2.2 | (with_reducible refine Kd.C_alloc ?_ _) | (with_reducible refine Kd.C_drewN ?_ _) | (with_reducible refine Kd.C_drew ?_))); (case side2 => exact (Kd.R_reads' HO369.out).2.1); rintro e w65 ⟨v373, rfl, ho0, hb⟩; refine ⟨_, rfl, ?_⟩; have n0_ := Aside0.mk (Kd.R_below (by (with_reducible repeat (first | apply Kd.R_alloc | apply Kd.R_drewN | apply Kd.R_drew)); exact HO_5.out) hb); have n1_ := Aside0.mk (Kd.R_below (by (with_reducible repeat (first | apply Kd.R_alloc | apply Kd.R_drewN | apply Kd.R_drew)); exact HO369.out) hb); have n2_ := Aside0.mk (Kd.R_lower ho0 (below_size (by repeat (first | (with_reducible first | exact HB.out | apply below_alloc | apply pw_below_drewN | apply below_drew1) | exact HB.out)))); have n3_ := Aside0.mk (below_step (by repeat (first | (with_reducible first | exact HB.out | apply below_alloc | apply pw_below_drewN | apply below_drew1) | exact HB.out)) hb); clear HO_5; clear HO369; clear HB; have HO_5 := n0_; have HO369 := n1_; have HO374 := n2_; have HB := n3_; clear n0_ n1_ n2_ n3_; (try clear hb); (try clear hb2); (try clear hk); (try clear hi); (try clear ho0); obtain ⟨Ao66, co66, eo66⟩ := Kd.R_slice HO374.out; subst eo66))
                            go_ret
                            exact ⟨by first | rfl | (simp [errW_none, errW_some] <;> rfl) | (simp [*, errW_none, errW_some] <;> rfl) | (exfalso; simp only [decide_eq_true_eq, decide_eq_false_iff_not] at *; omega), by repeat (first | (with_reducible first | exact HB.out | apply below_alloc | apply pw_below_drewN | apply below_drew1) | exact HB.out)⟩
                        · rw [if_neg c53] at H
                          have c53b0 : (t372 == 0) = false := beq_eq_false_iff_ne.mpr c53
                          have c53b1 : (t372 != 0) = true := bne_iff_ne.mpr c53
                          obtain rfl := Option.some.inj H
                          go_wp2_with (first | ((with_reducible refine gate_callee (f := 16) rfl ?_); refine goesL_ (some 91) rfl rfl Try.func16 (by kernel_rfl) rfl #[.slice Ao10 t348.length co10, .int .i64 0, .int .i64 t361] rfl (by (try simp only [List.map_toArray, List.map_cons, List.map_nil]); first | done | rfl | (simp only [List.length_drop, List.length_take]; rfl)) ?_; (with_reducible refine (leatref01_Piece.calls kj39 _ _ t348 0 t361 t367 _ ?side1 ?side2 A51.out).mono ?_); (case side1 => repeat (first | exact (Kd.R_reads' HO_5.out).2.2 | (with_reducible refine Kd.C_alloc ?_ _) | (with_reducible refine Kd.C_drewN ?_ _) | (with_reducible refine Kd.C_drew ?_))); (case side2 => exact (Kd.R_reads' HO_5.out).2.1); rintro e w67 ⟨v368, rfl, ho0, hb⟩; refine ⟨_, rfl, ?_⟩; have n0_ := Aside0.mk (Kd.R_elder' (by (with_reducible repeat (first | apply Kd.R_alloc | apply Kd.R_drewN | apply Kd.R_drew)); exact HO_5.out) (Kd.R_base ho0) hb); have n1_ := Aside0.mk (Kd.R_lower (Kd.R_new' ho0 (Kd.R_lt (by (with_reducible repeat (first | apply Kd.R_alloc | apply Kd.R_drewN | apply Kd.R_drew)); exact HO_5.out))) (below_size (by repeat (first | (with_reducible first | exact HB.out | apply below_alloc | apply pw_below_drewN | apply below_drew1) | exact HB.out)))); have n2_ := Aside0.mk (below_step (by repeat (first | (with_reducible first | exact HB.out | apply below_alloc | apply pw_below_drewN | apply below_drew1) | exact HB.out)) hb); clear HO_5; clear HB; have HO_5 := n0_; have HO369 := n1_; have HB := n2_; clear n0_ n1_ n2_; (try clear hb); (try clear hb2); (try clear hk); (try clear hi); (try clear ho0); obtain ⟨Ao68, co68, eo68⟩ := Kd.R_slice HO369.out; subst eo68) | ((with_reducible refine gate_callee (f := 32) rfl ?_); refine goesL_ (some 92) rfl rfl Try.func32 (by kernel_rfl) rfl #[.slice Ao68 t367.length co68] rfl (by (try simp only [List.map_toArray, List.map_cons, List.map_nil]); first | done | rfl | (simp only [List.length_drop, List.length_take]; rfl)) ?_; (with_reducible refine (vint_GetAll.calls kj39 _ _ t367 t370 t371 t372 _ ?side1 ?side2 A52.out).mono ?_); (case side1 => repeat (first | exact (Kd.R_reads' HO369.out).2.2 | (with_reducible refine Kd.C_alloc ?_ _) | (with_reducible refine Kd.C_drewN ?_ _) | (with_reducible refine Kd.C_drew ?_))); (case side2 => exact (Kd.R_reads' HO369.out).2.1); rintro e w69 ⟨v373, rfl, ho0, hb⟩; refine ⟨_, rfl, ?_⟩; have n0_ := Aside0.mk (Kd.R_below (by (with_reducible repeat (first | apply Kd.R_alloc | apply Kd.R_drewN | apply Kd.R_drew)); exact HO_5.out) hb); have n1_ := Aside0.mk (Kd.R_below (by (with_reducible repeat (first | apply Kd.R_alloc | apply Kd.R_drewN | apply Kd.R_drew)); exact HO369.out) hb); have n2_ := Aside0.mk (Kd.R_lower ho0 (below_size (by repeat (first | (with_reducible first | exact HB.out | apply below_alloc | apply pw_below_drewN | apply below_drew1) | exact HB.out)))); have n3_ := Aside0.mk (below_step (by repeat (first | (with_reducible first | exact HB.out | apply below_alloc | apply pw_below_drewN | apply below_drew1) | exact HB.out)) hb); clear HO_5; clear HO369; clear HB; have HO_5 := n0_; have HO369 := n1_; have HO374 := n2_; have HB := n3_; clear n0_ n1_ n2_ n3_; (try clear hb); (try clear hb2); (try clear hk); (try clear hi); (try clear ho0)))
                          go_ret
                          exact ⟨by first | rfl | (simp [errW_none, errW_some] <;> rfl) | (simp [*, errW_none, errW_some] <;> rfl) | (exfalso; simp only [decide_eq_true_eq, decide_eq_false_iff_not] at *; omega), by repeat (first | (with_reducible first | exact HB.out | apply below_alloc | apply pw_below_drewN | apply below_drew1) | exact HB.out)⟩
  · replace c4 := Bool.eq_false_iff.mpr c4
    subst c4
    have H1 : (some false) = some r := by rw [if_neg (show ¬ (false = true) by decide)] at H; exact H
    clear H
    have H := H1
    clear H1
    obtain rfl := Option.some.inj H
    go_enter Try.func9, Try.ntmps9
    go_wp2_with (first | ((with_reducible refine gate_callee (f := 10) rfl ?_); refine goesL_ (some 15) rfl rfl Try.func10 (by kernel_rfl) rfl #[] rfl (by (try simp only [List.map_toArray, List.map_cons, List.map_nil]); first | done | rfl | (simp only [List.length_drop, List.length_take]; rfl)) ?_; (with_reducible refine (leatlaw02_alive.calls k  false _ A3.out).mono ?_); rintro e w70 ⟨rfl, hb⟩; refine ⟨_, rfl, ?_⟩; have n0_ := Aside0.mk (below_step (by repeat (first | (with_reducible first | exact HB.out | apply below_alloc | apply pw_below_drewN | apply below_drew1) | exact HB.out)) hb); clear HB; have HB := n0_; clear n0_; (try clear hb); (try clear hb2); (try clear hk); (try clear hi)))
    go_ret
    exact ⟨by first | rfl | (simp [errW_none, errW_some] <;> rfl) | (simp [*, errW_none, errW_some] <;> rfl) | (exfalso; simp only [decide_eq_true_eq, decide_eq_false_iff_not] at *; omega), by repeat (first | (with_reducible first | exact HB.out | apply below_alloc | apply pw_below_drewN | apply below_drew1) | exact HB.out)⟩

/-- THE ONE PURE STATEMENT of leatlaw02_VintMany: yours. -/
def leatlaw02_VintMany.Pure : Prop := ∀ (l0 : List Int) (a1 : Int), l0.length ≤ maxLen → l0.length * 8 ≤ 140737488351232 → (∀ x ∈ l0, (Lit.int .i64 x).wf = true) → (Lit.int .i64 a1).wf = true → ∃ k, leatlaw02_VintMany.f k l0 a1 = some true
theorem leatlaw02_VintMany.walk (P : leatlaw02_VintMany.Pure) (a0 : Option Addr) (len0 cap0 : Nat) (z0 : List Int) (a1 : Int) (w : World) (w0 : (a0 = none ∧ len0 = 0 ∧ cap0 = 0 ∧ z0 = []) ∨ ∃ x, a0 = some x ∧ len0 ≤ cap0 ∧ cap0 ≤ maxLen ∧ z0.length = cap0 ∧ (∀ i, i < z0.length → w.cell? (x.add i) = some (.int .i64 (z0.getD i 0))) ∧ ∀ n ∈ z0, (Lit.int .i64 n).wf = true) (y0 : len0 * 8 ≤ 140737488351232) (w1 : (Lit.int .i64 a1).wf = true) :
    Calls Try.prog 9 #[.slice a0 len0 cap0, .int .i64 a1] w fun e w' => e = .returned (.bool true) ∧ Below w.heap.size w w' := by
  obtain ⟨l0, rfl, hr0, hm0, hw0, hc0⟩ := ReadsInt.ofRowC w0
  obtain ⟨k, h⟩ := P l0 a1 hm0 y0 hw0 w1
  refine (leatlaw02_VintMany.calls k _ _ l0 a1 true w (Kd.C_of_reads (d := (0 : Int)) (h1 := fun _ => rfl) hr0) hc0 h).mono ?_
  rintro e w' ⟨rfl, hd⟩
  exact ⟨rfl, hd⟩

end Go.Proofs.Ythkbnmlelolljaa.Q
