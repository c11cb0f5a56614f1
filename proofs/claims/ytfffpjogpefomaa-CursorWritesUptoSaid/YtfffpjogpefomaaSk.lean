/- leatlaw01.CursorJoins. -/
import Derived.Test.YtfffpjogpefomaaSj
import Derived.Test.YtfffpjogpefomaaRr
namespace Go.Proofs.Ytfffpjogpefomaa.Ra
open Go Go.RowKit
set_option linter.unusedVariables false
set_option linter.unusedSimpArgs false
set_option maxRecDepth 10000
theorem intact_yes {st : St} (hw : WF st) {K K' : Nat → Prop} {v u : AV} {ys : List Int} (h : RdB st K v (ys ++ marks 96)) (h' : RdB st K' u ys) (hl : ys.length ≤ 140737488355000) :
    ACalls Try.prog 12 [v, u] st (fun r s => Ext st s ∧ r = .pl (.bool true)) :=
  (intact_ok hw h h' hl (by simp [marks_len]; omega)).mono fun r s hr => ⟨hr.1, by rw [hr.2]; simp⟩
theorem litR0 (id : Nat) : abuildSlice Try.prog 22 id 0 [] = some (.sl id 0 0 1, ⟨[], 24, true, id⟩) := lits_one TB id [] (by simp) (by decide)
theorem litR1 {st : St} {K : Nat → Prop} {x : AV} {ys : List Int} (hl : RdB st K x ys) (id : Nat) : abuildSlice Try.prog 22 id 1 [(0, x)] = some (.sl id 0 1 1, ⟨[x], 24, true, id⟩) := lits_one TB id [x] (by simp [hl.solid, hl.cell.1]) (by simp)
theorem lit89 (id : Nat) : abuildSlice Try.prog 24 id 2 [(0, u8 8), (1, u8 9)] = some (.sl id 0 2 1, ⟨[8, 9].map u8, 5, true, id⟩) := lits id [8, 9] (by decide)
theorem lit789 (id : Nat) : abuildSlice Try.prog 24 id 3 [(0, u8 7), (1, u8 8), (2, u8 9)] = some (.sl id 0 3 1, ⟨[7, 8, 9].map u8, 5, true, id⟩) := lits id [7, 8, 9] (by decide)
theorem litR3 (id a b : Nat) : abuildSlice Try.prog 22 id 3 [(0, .sl a 0 1 1), (1, .pl (.slice none 0 0)), (2, .sl b 0 2 1)] = some (.sl id 0 3 1, ⟨[.sl a 0 1 1, .pl (.slice none 0 0), .sl b 0 2 1], 24, true, id⟩) := lits_one TB id [.sl a 0 1 1, .pl (.slice none 0 0), .sl b 0 2 1] (by simp; exact ⟨⟨rfl, rfl⟩, ⟨rfl, rfl⟩, rfl, rfl⟩) (by simp)
theorem joins_ok {st : St} (hw : WF st) {v : AV} {ps : List (List Int)} (h : RdR st (fun _ => True) (fun _ => True) v ps) (hl : (ps.map fun p => p.length + 1).sum ≤ 1048576) :
    ACalls Try.prog 3 [v] st (fun r s => r = .pl (.bool true)) := by
  replace h : RdR st (fun g => True ∧ g < st.n) (fun g => True ∧ g < st.n) v ps := RdL.lt hw (fun c x => RB.lt hw c x) h
  have hvs := h.solid
  have hpl : ps.length ≤ 1048576 := by
    have : ∀ (l : List (List Int)), l.length ≤ (l.map fun p => p.length + 1).sum := by
      intro l
      induction l with
      | nil => simp
      | cons x l ih => simp; omega
    have := this ps
    omega
  have hfl : ps.flatten.length ≤ 1048576 := by
    have : ∀ (l : List (List Int)), l.flatten.length ≤ (l.map fun p => p.length + 1).sum := by
      intro l
      induction l with
      | nil => simp
      | cons x l ih => rw [List.flatten_cons, List.length_append, List.map_cons, List.sum_cons]; omega
    have := this ps
    omega
  refine acalls_of Try.func3 rfl (by kernel_rfl) (by simp [hvs]) ?_
  repeat (first | (refine aw_seq ?_) | (refine aw_reg0 (by simp only [SZ, Nat.reduceAdd]; exact rfl) ?_) | (refine aw_reg (by decide +kernel) (by simp only [SZ, Nat.reduceAdd]; exact rfl) ?_) | (refine aw_regS (by decide +kernel) (by simp only [SZ, Nat.reduceAdd]; exact rfl) ?_) | (refine arl_nil ?_) | (refine aw_skip ?_) | (refine aw_block ?_) | (refine aw_exit ?_) | (refine aw_ret ?_) | (refine arl_cons rfl rfl (by simp +decide only [aop, abuiltin, aeval, aintBin, bin_int, aload_bump, SS, reduceIte, reduceCtorEq]; exact rfl) (by first | rfl | assumption) rfl ?_) | (refine arl_none rfl rfl (by simp +decide only [aop, abuiltin, aeval, aintBin, bin_int, aload_bump, SS, reduceIte, reduceCtorEq]; exact rfl) rfl rfl ?_) | (refine arl_off rfl rfl ?_))
  refine arl_call rfl rfl rfl rfl rfl rfl ((alive_ok ((by repeat (first | assumption | (refine WF.bump ?_ _) | (refine WF.put ?_ (by simp only [n_bump, n_put, n_touch, n_kill] at *; omega) (by simp only [n_bump, n_put, n_touch, n_kill] at *; omega)))))).wf (by repeat (first | assumption | (refine WF.bump ?_ _) | (refine WF.put ?_ (by simp only [n_bump, n_put, n_touch, n_kill] at *; omega) (by simp only [n_bump, n_put, n_touch, n_kill] at *; omega)))) |>.mono ?_)
  rintro r s1 ⟨hw1, hn1, hE1, rfl⟩
  refine ⟨rfl, ?_⟩
  replace hE1 : Ext st s1 := Keeps.trans (by repeat (first | assumption | exact Keeps.refl _ _ | (refine Keeps.bumpR ?_ _) | (refine Keeps.put ?_ (by assumption) (by simp only [n_bump, n_put, n_touch, n_kill] at *; omega)))) hE1
  have hE1n := hE1.n
  repeat (first | (refine aw_seq ?_) | (refine aw_reg0 (by simp only [SZ, Nat.reduceAdd]; exact rfl) ?_) | (refine aw_reg (by decide +kernel) (by simp only [SZ, Nat.reduceAdd]; exact rfl) ?_) | (refine aw_regS (by decide +kernel) (by simp only [SZ, Nat.reduceAdd]; exact rfl) ?_) | (refine arl_nil ?_) | (refine aw_skip ?_) | (refine aw_block ?_) | (refine aw_exit ?_) | (refine aw_ret ?_) | (refine arl_cons rfl rfl (by simp +decide only [aop, abuiltin, aeval, aintBin, bin_int, aload_bump, SS, reduceIte, reduceCtorEq]; exact rfl) (by first | rfl | assumption) rfl ?_) | (refine arl_none rfl rfl (by simp +decide only [aop, abuiltin, aeval, aintBin, bin_int, aload_bump, SS, reduceIte, reduceCtorEq]; exact rfl) rfl rfl ?_) | (refine arl_off rfl rfl ?_))
  (change AW _ _ _ _ _)
  refine aw_cond (by simp +decide only [aop, abuiltin, aeval, aintBin, bin_int, aload_bump, SS, reduceIte, reduceCtorEq]; exact rfl) (fun hq => ?_) (fun hq => ?_)
  · cases hq
  clear hq
  have hln := RdL.len h TB
  repeat (first | (refine aw_seq ?_) | (refine aw_reg0 (by simp only [SZ, Nat.reduceAdd]; exact rfl) ?_) | (refine aw_reg (by decide +kernel) (by simp only [SZ, Nat.reduceAdd]; exact rfl) ?_) | (refine aw_regS (by decide +kernel) (by simp only [SZ, Nat.reduceAdd]; exact rfl) ?_) | (refine arl_nil ?_) | (refine aw_skip ?_) | (refine aw_block ?_) | (refine aw_exit ?_) | (refine aw_ret ?_) | (refine arl_cons rfl rfl (by simp +decide only [aop, abuiltin, aeval, aintBin, bin_int, aload_bump, SS, reduceIte, reduceCtorEq, lit0, litR0, hln]; exact rfl) (by first | rfl | assumption) rfl ?_) | (refine arl_none rfl rfl (by simp +decide only [aop, abuiltin, aeval, aintBin, bin_int, aload_bump, SS, reduceIte, reduceCtorEq, lit0, litR0, hln]; exact rfl) rfl rfl ?_) | (refine arl_off rfl rfl ?_))
  refine AW.mono (AW.wf (aw_rounds_wf (fun n fr s => Ext st s ∧ ∃ (k g4 g5 : Nat), k ≤ ps.length ∧ n = ps.length - k ∧ s1.n ≤ g4 ∧ s1.n ≤ g5 ∧ g4 ≠ g5 ∧ fr 0 = v ∧ fr 20 = v ∧ fr 21 = i64 ps.length ∧ fr 22 = i64 k ∧ OwB s (fun g => s1.n ≤ g ∧ g ≠ g4 ∧ g ≠ g5) (fr 3) (ps.take k).flatten ∧ fr 4 ≠ .pl (.slice none 0 0) ∧ fr 5 ≠ .pl (.slice none 0 0) ∧
      OwR s (fun g => g = g4) (fun g => s1.n ≤ g ∧ g ≠ g4 ∧ g ≠ g5) (fr 4) ((ps.take k).map (· ++ marks 96)) ∧ OwR s (fun g => g = g5) (fun g => s1.n ≤ g ∧ g ≠ g4 ∧ g ≠ g5) (fr 5) (ps.take k))
    (Q := fun e fr s => e = .exit 0 ∧ Ext st s ∧ ∃ (g4 g5 : Nat), s1.n ≤ g4 ∧ s1.n ≤ g5 ∧ g4 ≠ g5 ∧ fr 0 = v ∧ OwB s (fun g => s1.n ≤ g ∧ g ≠ g4 ∧ g ≠ g5) (fr 3) ps.flatten ∧
      OwR s (fun g => g = g4) (fun g => s1.n ≤ g ∧ g ≠ g4 ∧ g ≠ g5) (fr 4) (ps.map (· ++ marks 96)) ∧ OwR s (fun g => g = g5) (fun g => s1.n ≤ g ∧ g ≠ g4 ∧ g ≠ g5) (fr 5) ps) ?_ ps.length _ _ (by repeat (first | assumption | (refine WF.bump ?_ _) | (refine WF.put ?_ (by simp only [n_bump, n_put, n_touch, n_kill] at *; omega) (by simp only [n_bump, n_put, n_touch, n_kill] at *; omega)))) ?_) (by repeat (first | assumption | (refine WF.bump ?_ _) | (refine WF.put ?_ (by simp only [n_bump, n_put, n_touch, n_kill] at *; omega) (by simp only [n_bump, n_put, n_touch, n_kill] at *; omega))))) ?_
  · rintro n fr s hws ⟨hE, k, g4, g5, hk, rfl, hg4, hg5, hg45, f0, f20, f21, f22, hA, hn4, hn5, h4, h5⟩
    have hEn := hE.n
    have hR := RdR.keep h hE (fun _ _ h => h) (fun _ _ h => h)
    have hAs := hA.solid
    have h4s := h4.solid
    have h5s := h5.solid
    repeat (first | (refine aw_seq ?_) | (refine aw_reg0 (by simp only [SZ, Nat.reduceAdd]; exact rfl) ?_) | (refine aw_reg (by decide +kernel) (by simp only [SZ, Nat.reduceAdd]; exact rfl) ?_) | (refine aw_regS (by decide +kernel) (by simp only [SZ, Nat.reduceAdd]; exact rfl) ?_) | (refine arl_nil ?_) | (refine aw_skip ?_) | (refine aw_block ?_) | (refine aw_exit ?_) | (refine aw_ret ?_) | (refine arl_cons rfl rfl (by simp +decide only [aop, abuiltin, aeval, aintBin, bin_int, aload_bump, SS, reduceIte, reduceCtorEq, f21, f22]; exact rfl) (by first | rfl | assumption) rfl ?_) | (refine arl_none rfl rfl (by simp +decide only [aop, abuiltin, aeval, aintBin, bin_int, aload_bump, SS, reduceIte, reduceCtorEq, f21, f22]; exact rfl) rfl rfl ?_) | (refine arl_off rfl rfl ?_))
    (change AW _ _ _ _ _)
    refine aw_cond (by simp +decide only [aop, abuiltin, aeval, aintBin, bin_int, aload_bump, SS, reduceIte, reduceCtorEq]; exact rfl) (fun hc => ?_) (fun hc => ?_)
    · simp only [decide_eq_true_eq] at hc
      have hk2 : k < ps.length := by omega
      obtain ⟨q, c, hp1, hp2, hp3, hp4, hp5⟩ := hR.at .i64 k hk2
      have hflk := flat_len ps (k + 1)
      rw [flat_succ _ _ hk2, List.length_append] at hflk
      repeat (first | (refine aw_seq ?_) | (refine aw_reg0 (by simp only [SZ, Nat.reduceAdd]; exact rfl) ?_) | (refine aw_reg (by decide +kernel) (by simp only [SZ, Nat.reduceAdd]; exact rfl) ?_) | (refine aw_regS (by decide +kernel) (by simp only [SZ, Nat.reduceAdd]; exact rfl) ?_) | (refine arl_nil ?_) | (refine aw_skip ?_) | (refine aw_block ?_) | (refine aw_exit ?_) | (refine aw_ret ?_) | (refine arl_cons rfl rfl (by simp +decide only [aop, abuiltin, aeval, aintBin, bin_int, aload_bump, SS, reduceIte, reduceCtorEq, f20, f22, hp1, hp3]; exact rfl) (by first | rfl | assumption) rfl ?_) | (refine arl_none rfl rfl (by simp +decide only [aop, abuiltin, aeval, aintBin, bin_int, aload_bump, SS, reduceIte, reduceCtorEq, f20, f22, hp1, hp3]; exact rfl) rfl rfl ?_) | (refine arl_off rfl rfl ?_))
      refine arl_call rfl rfl rfl rfl rfl rfl ((cat_ok ((by repeat (first | assumption | (refine WF.bump ?_ _) | (refine WF.put ?_ (by simp only [n_bump, n_put, n_touch, n_kill] at *; omega) (by simp only [n_bump, n_put, n_touch, n_kill] at *; omega))))) (hA.rd.keep (G := fun _ => False) (by repeat (first | assumption | exact Keeps.refl _ _ | (refine Keeps.bumpR ?_ _) | (refine Keeps.put ?_ (by assumption) (by simp only [n_bump, n_put, n_touch, n_kill] at *; omega)))) (fun _ _ h => h)) (hp5.keep (G := fun _ => False) (by repeat (first | assumption | exact Keeps.refl _ _ | (refine Keeps.bumpR ?_ _) | (refine Keeps.put ?_ (by assumption) (by simp only [n_bump, n_put, n_touch, n_kill] at *; omega)))) (fun _ _ h => h)) (by omega)).wf (by repeat (first | assumption | (refine WF.bump ?_ _) | (refine WF.put ?_ (by simp only [n_bump, n_put, n_touch, n_kill] at *; omega) (by simp only [n_bump, n_put, n_touch, n_kill] at *; omega)))) |>.mono ?_)
      rintro a s2 ⟨hw2, hn2, hE2, has, hA2⟩
      refine ⟨has, ?_⟩
      replace hE2 : Ext s s2 := Keeps.trans (by repeat (first | assumption | exact Keeps.refl _ _ | (refine Keeps.bumpR ?_ _) | (refine Keeps.put ?_ (by assumption) (by simp only [n_bump, n_put, n_touch, n_kill] at *; omega)))) hE2
      have hE2n := hE2.n
      have hp6 := hp5.keep hE2 (fun _ _ h => h)
      repeat (first | (refine aw_seq ?_) | (refine aw_reg0 (by simp only [SZ, Nat.reduceAdd]; exact rfl) ?_) | (refine aw_reg (by decide +kernel) (by simp only [SZ, Nat.reduceAdd]; exact rfl) ?_) | (refine aw_regS (by decide +kernel) (by simp only [SZ, Nat.reduceAdd]; exact rfl) ?_) | (refine arl_nil ?_) | (refine aw_skip ?_) | (refine aw_block ?_) | (refine aw_exit ?_) | (refine aw_ret ?_) | (refine arl_cons rfl rfl (by simp +decide only [aop, abuiltin, aeval, aintBin, bin_int, aload_bump, SS, reduceIte, reduceCtorEq]; exact rfl) (by first | rfl | assumption) rfl ?_) | (refine arl_none rfl rfl (by simp +decide only [aop, abuiltin, aeval, aintBin, bin_int, aload_bump, SS, reduceIte, reduceCtorEq]; exact rfl) rfl rfl ?_) | (refine arl_off rfl rfl ?_))
      refine arl_call rfl rfl rfl rfl rfl rfl ((wide_ok ((by repeat (first | assumption | (refine WF.bump ?_ _) | (refine WF.put ?_ (by simp only [n_bump, n_put, n_touch, n_kill] at *; omega) (by simp only [n_bump, n_put, n_touch, n_kill] at *; omega))))) (hp6.keep (G := fun _ => False) (by repeat (first | assumption | exact Keeps.refl _ _ | (refine Keeps.bumpR ?_ _) | (refine Keeps.put ?_ (by assumption) (by simp only [n_bump, n_put, n_touch, n_kill] at *; omega)))) (fun _ _ h => h)) (by omega)).wf (by repeat (first | assumption | (refine WF.bump ?_ _) | (refine WF.put ?_ (by simp only [n_bump, n_put, n_touch, n_kill] at *; omega) (by simp only [n_bump, n_put, n_touch, n_kill] at *; omega)))) |>.mono ?_)
      rintro w s3 ⟨hw3, hn3, hE3, hws3, hW3⟩
      refine ⟨hws3, ?_⟩
      replace hE3 : Ext s2 s3 := Keeps.trans (by repeat (first | assumption | exact Keeps.refl _ _ | (refine Keeps.bumpR ?_ _) | (refine Keeps.put ?_ (by assumption) (by simp only [n_bump, n_put, n_touch, n_kill] at *; omega)))) hE3
      have hE3n := hE3.n
      have hp7 := hp6.keep hE3 (fun _ _ h => h)
      obtain ⟨g, rfl, hg4n⟩ := h4.grp hws hn4
      obtain ⟨g', rfl, hg5n⟩ := h5.grp hws hn5
      have hs3 : Ext s s3 := Keeps.trans hE2 hE3
      have hKE : ∀ x, s2.n ≤ x → s1.n ≤ x ∧ x ≠ g ∧ x ≠ g' := fun x hx => ⟨by simp only [n_bump] at *; omega, by omega, by omega⟩
      have hW : RB s3 (fun x => s1.n ≤ x ∧ x ≠ g ∧ x ≠ g') [w] (ps[k] ++ marks 96) := ⟨w, rfl, hW3.rd.mono (fun x hx => hKE x (by simp only [n_bump] at hx; omega))⟩
      have hlr := litR1 (st := s3) (x := w) (hl := hW3.rd)
      repeat (first | (refine aw_seq ?_) | (refine aw_reg0 (by simp only [SZ, Nat.reduceAdd]; exact rfl) ?_) | (refine aw_reg (by decide +kernel) (by simp only [SZ, Nat.reduceAdd]; exact rfl) ?_) | (refine aw_regS (by decide +kernel) (by simp only [SZ, Nat.reduceAdd]; exact rfl) ?_) | (refine arl_nil ?_) | (refine aw_skip ?_) | (refine aw_block ?_) | (refine aw_exit ?_) | (refine aw_ret ?_) | (refine arl_cons rfl rfl (by simp +decide only [aop, abuiltin, aeval, aintBin, bin_int, aload_bump, SS, reduceIte, reduceCtorEq, hlr]; exact rfl) (by first | rfl | assumption) rfl ?_) | (refine arl_none rfl rfl (by simp +decide only [aop, abuiltin, aeval, aintBin, bin_int, aload_bump, SS, reduceIte, reduceCtorEq, hlr]; exact rfl) rfl rfl ?_) | (refine arl_off rfl rfl ?_))
      refine arl_appL (K := fun x => x = g) (K' := fun _ => True) (R := RB s3 (fun x => s1.n ≤ x ∧ x ≠ g ∧ x ≠ g')) (xs := (ps.take k).map (· ++ marks 96)) (ns := [ps[k] ++ marks 96]) TB rfl rfl rfl (OwL.keep h4 (G := fun _ => False) (by repeat (first | assumption | exact Keeps.refl _ _ | (refine Keeps.bumpR ?_ _) | (refine Keeps.put ?_ (by assumption) (by simp only [n_bump, n_put, n_touch, n_kill] at *; omega)))) (fun _ _ h => h) (fun c x => RB.keep hs3 (fun _ _ h => h) c x)) (RdL.lit1 hW _ _ _) (RB.one) (fun h => absurd h hn4) (by simp; omega) (by simp; omega) ?_
      intro y s4 h4' hn4' hK4 hwf4
      have hw4 : WF s4 := hwf4 (by repeat (first | assumption | (refine WF.bump ?_ _) | (refine WF.put ?_ (by simp only [n_bump, n_put, n_touch, n_kill] at *; omega) (by simp only [n_bump, n_put, n_touch, n_kill] at *; omega)))) (by simp only [n_bump, n_put, n_touch, n_kill] at *; omega)
      have hys := h4'.solid
      have hyn := h4'.ne
      have hk34 : Keeps (fun x => x = g) s3 s4 := hK4 _ s3 hw3 (by repeat (first | assumption | exact Keeps.refl _ _ | (refine Keeps.bumpR ?_ _) | (refine Keeps.put ?_ (by assumption) (by simp only [n_bump, n_put, n_touch, n_kill] at *; omega)))) (by simp only [n_bump, n_put, n_touch, n_kill] at *; omega) (fun x hx => .inl hx)
      have hk34n := hk34.n
      have hE4 : Ext st s4 := hK4 _ st hw (Keeps.trans hE (Keeps.trans hs3 (show Ext s3 _ from (by repeat (first | assumption | exact Keeps.refl _ _ | (refine Keeps.bumpR ?_ _) | (refine Keeps.put ?_ (by assumption) (by simp only [n_bump, n_put, n_touch, n_kill] at *; omega))))))) (by simp only [n_bump, n_put, n_touch, n_kill] at *; omega) (fun x hx => .inr (by omega))
      replace h4' : OwR s4 (fun x => x = g) (fun x => s1.n ≤ x ∧ x ≠ g ∧ x ≠ g') y ((ps.take k).map (· ++ marks 96) ++ [ps[k] ++ marks 96]) := OwL.keep h4' (G := fun _ => False) (Keeps.refl _ _) (fun _ _ h => h) (fun c x => RB.keep hk34 (fun x hx => hx.2.1) c x)
      have hlc := (hp7.keep hk34 (fun x hx hx' => by have := hx.2; omega)).len
      obtain ⟨u, hcut, hcr⟩ := ((hW3.mono (K' := fun x => s1.n ≤ x ∧ x ≠ g ∧ x ≠ g') (fun x hx => hKE x (by simp only [n_bump] at hx; omega))).keep hk34 (fun x hx => hx.2.1)).cut
      have hus := hcr.solid
      have hlr2 := litR1 (st := s4) (x := u) (hl := hcr)
      repeat (first | (refine aw_seq ?_) | (refine aw_reg0 (by simp only [SZ, Nat.reduceAdd]; exact rfl) ?_) | (refine aw_reg (by decide +kernel) (by simp only [SZ, Nat.reduceAdd]; exact rfl) ?_) | (refine aw_regS (by decide +kernel) (by simp only [SZ, Nat.reduceAdd]; exact rfl) ?_) | (refine arl_nil ?_) | (refine aw_skip ?_) | (refine aw_block ?_) | (refine aw_exit ?_) | (refine aw_ret ?_) | (refine arl_cons rfl rfl (by simp +decide only [aop, abuiltin, aeval, aintBin, bin_int, aload_bump, SS, reduceIte, reduceCtorEq, hlc, hcut, hlr2]; exact rfl) (by first | rfl | assumption) rfl ?_) | (refine arl_none rfl rfl (by simp +decide only [aop, abuiltin, aeval, aintBin, bin_int, aload_bump, SS, reduceIte, reduceCtorEq, hlc, hcut, hlr2]; exact rfl) rfl rfl ?_) | (refine arl_off rfl rfl ?_))
      refine arl_appL (K := fun x => x = g') (K' := fun _ => True) (R := RB s4 (fun x => s1.n ≤ x ∧ x ≠ g ∧ x ≠ g')) (xs := ps.take k) (ns := [ps[k]]) TB rfl rfl rfl (OwL.keep (OwL.keep h5 hs3 (fun _ _ h => h) (R' := RB s3 (fun x => s1.n ≤ x ∧ x ≠ g ∧ x ≠ g')) (fun c x => RB.keep hs3 (fun _ _ h => h) c x)) (Keeps.trans hk34 (Keeps.mono (G := fun _ => False) (show Keeps _ s4 _ from (by repeat (first | assumption | exact Keeps.refl _ _ | (refine Keeps.bumpR ?_ _) | (refine Keeps.put ?_ (by assumption) (by simp only [n_bump, n_put, n_touch, n_kill] at *; omega))))) (fun _ h => h.elim))) (fun x hx => by omega) (fun c x => RB.keep hk34 (fun x hx => hx.2.1) c x)) (RdL.lit1 ⟨u, rfl, hcr⟩ _ _ _) (RB.one) (fun h => absurd h hn5) (by simp; omega) (by simp; omega) ?_
      intro y' s5 h5' hn5' hK5 _
      have hys' := h5'.solid
      have hyn' := h5'.ne
      have hk45 : Keeps (fun x => x = g') s4 s5 := hK5 _ s4 hw4 (by repeat (first | assumption | exact Keeps.refl _ _ | (refine Keeps.bumpR ?_ _) | (refine Keeps.put ?_ (by assumption) (by simp only [n_bump, n_put, n_touch, n_kill] at *; omega)))) (by simp only [n_bump, n_put, n_touch, n_kill] at *; omega) (fun x hx => .inl hx)
      have hk45n := hk45.n
      have hE5 : Ext st s5 := hK5 _ st hw (Keeps.trans hE4 (show Ext s4 _ from (by repeat (first | assumption | exact Keeps.refl _ _ | (refine Keeps.bumpR ?_ _) | (refine Keeps.put ?_ (by assumption) (by simp only [n_bump, n_put, n_touch, n_kill] at *; omega)))))) (by simp only [n_bump, n_put, n_touch, n_kill] at *; omega) (fun x hx => .inr (by omega))
      have h5'' : OwR s5 (fun x => x = g') (fun x => s1.n ≤ x ∧ x ≠ g ∧ x ≠ g') y' (ps.take k ++ [ps[k]]) := OwL.keep h5' (G := fun _ => False) (Keeps.refl _ _) (fun _ _ h => h) (fun c x => RB.keep hk45 (fun x hx => hx.2.2) c x)
      have h4'' : OwR s5 (fun x => x = g) (fun x => s1.n ≤ x ∧ x ≠ g ∧ x ≠ g') y ((ps.take k).map (· ++ marks 96) ++ [ps[k] ++ marks 96]) := OwR.keep h4' hk45 (fun x hx => by omega) (fun x hx => hx.2.2)
      have hA5 := (((hA2.mono (K' := fun x => s1.n ≤ x ∧ x ≠ g ∧ x ≠ g') (fun x hx => ⟨by simp only [n_bump] at hx; omega, by simp only [n_bump] at hx; omega, by simp only [n_bump] at hx; omega⟩)).keep hE3 (fun _ _ h => h)).keep hk34 (fun x hx => hx.2.1)).keep hk45 (fun x hx => hx.2.2)
      have hwk : IntKind.i64.wrap ((k : Int) + 1) = ((k + 1 : Nat) : Int) := by rw [wrap64_of (by omega) (by omega)]; omega
      repeat (first | (refine aw_seq ?_) | (refine aw_reg0 (by simp only [SZ, Nat.reduceAdd]; exact rfl) ?_) | (refine aw_reg (by decide +kernel) (by simp only [SZ, Nat.reduceAdd]; exact rfl) ?_) | (refine aw_regS (by decide +kernel) (by simp only [SZ, Nat.reduceAdd]; exact rfl) ?_) | (refine arl_nil ?_) | (refine aw_skip ?_) | (refine aw_block ?_) | (refine aw_exit ?_) | (refine aw_ret ?_) | (refine arl_cons rfl rfl (by simp +decide only [aop, abuiltin, aeval, aintBin, bin_int, aload_bump, SS, reduceIte, reduceCtorEq, f22, hwk]; exact rfl) (by first | rfl | assumption) rfl ?_) | (refine arl_none rfl rfl (by simp +decide only [aop, abuiltin, aeval, aintBin, bin_int, aload_bump, SS, reduceIte, reduceCtorEq, f22, hwk]; exact rfl) rfl rfl ?_) | (refine arl_off rfl rfl ?_))
      refine ⟨ps.length - (k + 1), by omega, (by repeat (first | assumption | exact Keeps.refl _ _ | (refine Keeps.bumpR ?_ _) | (refine Keeps.put ?_ (by assumption) (by simp only [n_bump, n_put, n_touch, n_kill] at *; omega)))), k + 1, g, g', by omega, rfl, by omega, by omega, hg45, f0, f20, f21, rfl, ?_, hyn, hyn', ?_, ?_⟩
      · rw [flat_succ _ _ hk2]
        exact hA5.bump _
      · rw [List.take_succ_eq_append_getElem hk2, List.map_append]
        exact OwR.keep h4'' ((Keeps.refl (fun _ => False) _).bumpR _) (fun _ _ h => h) (fun _ _ h => h)
      · rw [List.take_succ_eq_append_getElem hk2]
        exact OwR.keep h5'' ((Keeps.refl (fun _ => False) _).bumpR _) (fun _ _ h => h) (fun _ _ h => h)
    · simp only [decide_eq_false_iff_not] at hc
      repeat (first | (refine aw_seq ?_) | (refine aw_reg0 (by simp only [SZ, Nat.reduceAdd]; exact rfl) ?_) | (refine aw_reg (by decide +kernel) (by simp only [SZ, Nat.reduceAdd]; exact rfl) ?_) | (refine aw_regS (by decide +kernel) (by simp only [SZ, Nat.reduceAdd]; exact rfl) ?_) | (refine arl_nil ?_) | (refine aw_skip ?_) | (refine aw_block ?_) | (refine aw_exit ?_) | (refine aw_ret ?_) | (refine arl_cons rfl rfl (by simp +decide only [aop, abuiltin, aeval, aintBin, bin_int, aload_bump, SS, reduceIte, reduceCtorEq]; exact rfl) (by first | rfl | assumption) rfl ?_) | (refine arl_none rfl rfl (by simp +decide only [aop, abuiltin, aeval, aintBin, bin_int, aload_bump, SS, reduceIte, reduceCtorEq]; exact rfl) rfl rfl ?_) | (refine arl_off rfl rfl ?_))
      obtain rfl : k = ps.length := by omega
      rw [List.take_length] at hA h4 h5
      exact ⟨rfl, (by repeat (first | assumption | exact Keeps.refl _ _ | (refine Keeps.bumpR ?_ _) | (refine Keeps.put ?_ (by assumption) (by simp only [n_bump, n_put, n_touch, n_kill] at *; omega)))), g4, g5, hg4, hg5, hg45, f0, hA.bump _, h4.keep ((Keeps.refl (fun _ => False) _).bumpR _) (fun _ _ h => h) (fun _ _ h => h), h5.keep ((Keeps.refl (fun _ => False) _).bumpR _) (fun _ _ h => h) (fun _ _ h => h)⟩
  · refine ⟨(by repeat (first | assumption | exact Keeps.refl _ _ | (refine Keeps.bumpR ?_ _) | (refine Keeps.put ?_ (by assumption) (by simp only [n_bump, n_put, n_touch, n_kill] at *; omega)))), 0, s1.n + 2, s1.n + 4, by omega, rfl, by omega, by omega, by omega, rfl, rfl, rfl, rfl, .inr ⟨s1.n, s1.n, rfl, ?_, ?_⟩, (fun h => by cases h), (fun h => by cases h), .inr ⟨s1.n + 2, s1.n + 2, [], rfl, ?_, rfl, rfl, by simp⟩, .inr ⟨s1.n + 4, s1.n + 4, [], rfl, ?_, rfl, rfl, by simp⟩⟩
    · simp [St.put, St.bump]
    · exact ⟨Nat.le_refl _, by omega, by omega⟩
    · simp [St.put, St.bump]
    · simp [St.put, St.bump]
  rintro e fr s2 ⟨hw2, hn2, rfl, hE2, g4, g5, hg4, hg5, hg45, f0, h3, h4, h5⟩
  have hE2n := hE2.n
  generalize hall : fr 3 = all at h3
  generalize hwide : fr 4 = wide at h4
  have hvs3 := h3.solid
  have hvs4 := h4.solid
  have hvs5 := h5.solid
  repeat (first | (refine aw_seq ?_) | (refine aw_reg0 (by simp only [SZ, Nat.reduceAdd]; exact rfl) ?_) | (refine aw_reg (by decide +kernel) (by simp only [SZ, Nat.reduceAdd]; exact rfl) ?_) | (refine aw_regS (by decide +kernel) (by simp only [SZ, Nat.reduceAdd]; exact rfl) ?_) | (refine arl_nil ?_) | (refine aw_skip ?_) | (refine aw_block ?_) | (refine aw_exit ?_) | (refine aw_ret ?_) | (refine arl_cons rfl rfl (by simp +decide only [aop, abuiltin, aeval, aintBin, bin_int, aload_bump, SS, reduceIte, reduceCtorEq]; exact rfl) (by first | rfl | assumption) rfl ?_) | (refine arl_none rfl rfl (by simp +decide only [aop, abuiltin, aeval, aintBin, bin_int, aload_bump, SS, reduceIte, reduceCtorEq]; exact rfl) rfl rfl ?_) | (refine arl_off rfl rfl ?_))
  refine arl_call rfl rfl rfl rfl rfl rfl ((join_ok ((by repeat (first | assumption | (refine WF.bump ?_ _) | (refine WF.put ?_ (by simp only [n_bump, n_put, n_touch, n_kill] at *; omega) (by simp only [n_bump, n_put, n_touch, n_kill] at *; omega))))) (RdR.keep (OwL.rd h5) (G := fun _ => False) (by repeat (first | assumption | exact Keeps.refl _ _ | (refine Keeps.bumpR ?_ _) | (refine Keeps.put ?_ (by assumption) (by simp only [n_bump, n_put, n_touch, n_kill] at *; omega)))) (fun _ _ h => h) (fun _ _ h => h)) (by omega) (by omega)).wf (by repeat (first | assumption | (refine WF.bump ?_ _) | (refine WF.put ?_ (by simp only [n_bump, n_put, n_touch, n_kill] at *; omega) (by simp only [n_bump, n_put, n_touch, n_kill] at *; omega)))) |>.mono ?_)
  rintro a s3 ⟨hw3, hn3, hE3, has, hA3⟩
  refine ⟨has, ?_⟩
  replace hE3 : Ext s2 s3 := Keeps.trans (by repeat (first | assumption | exact Keeps.refl _ _ | (refine Keeps.bumpR ?_ _) | (refine Keeps.put ?_ (by assumption) (by simp only [n_bump, n_put, n_touch, n_kill] at *; omega)))) hE3
  have hE3n := hE3.n
  replace hA3 := hA3.lt hw3
  repeat (first | (refine aw_seq ?_) | (refine aw_reg0 (by simp only [SZ, Nat.reduceAdd]; exact rfl) ?_) | (refine aw_reg (by decide +kernel) (by simp only [SZ, Nat.reduceAdd]; exact rfl) ?_) | (refine aw_regS (by decide +kernel) (by simp only [SZ, Nat.reduceAdd]; exact rfl) ?_) | (refine arl_nil ?_) | (refine aw_skip ?_) | (refine aw_block ?_) | (refine aw_exit ?_) | (refine aw_ret ?_) | (refine arl_cons rfl rfl (by simp +decide only [aop, abuiltin, aeval, aintBin, bin_int, aload_bump, SS, reduceIte, reduceCtorEq]; exact rfl) (by first | rfl | assumption) rfl ?_) | (refine arl_none rfl rfl (by simp +decide only [aop, abuiltin, aeval, aintBin, bin_int, aload_bump, SS, reduceIte, reduceCtorEq]; exact rfl) rfl rfl ?_) | (refine arl_off rfl rfl ?_))
  refine arl_call rfl rfl rfl rfl rfl rfl ((join_ok ((by repeat (first | assumption | (refine WF.bump ?_ _) | (refine WF.put ?_ (by simp only [n_bump, n_put, n_touch, n_kill] at *; omega) (by simp only [n_bump, n_put, n_touch, n_kill] at *; omega))))) (RdR.keep (OwL.rd h5) (G := fun _ => False) (Keeps.trans hE3 (show Ext s3 _ from (by repeat (first | assumption | exact Keeps.refl _ _ | (refine Keeps.bumpR ?_ _) | (refine Keeps.put ?_ (by assumption) (by simp only [n_bump, n_put, n_touch, n_kill] at *; omega)))))) (fun _ _ h => h) (fun _ _ h => h)) (by omega) (by omega)).wf (by repeat (first | assumption | (refine WF.bump ?_ _) | (refine WF.put ?_ (by simp only [n_bump, n_put, n_touch, n_kill] at *; omega) (by simp only [n_bump, n_put, n_touch, n_kill] at *; omega)))) |>.mono ?_)
  rintro b s4 ⟨hw4, hn4, hE4, hbs, hB4⟩
  refine ⟨hbs, ?_⟩
  replace hE4 : Ext s3 s4 := Keeps.trans (by repeat (first | assumption | exact Keeps.refl _ _ | (refine Keeps.bumpR ?_ _) | (refine Keeps.put ?_ (by assumption) (by simp only [n_bump, n_put, n_touch, n_kill] at *; omega)))) hE4
  have hE4n := hE4.n
  replace hB4 := hB4.lt hw4
  have hA4 := hA3.keep hE4 (fun _ _ h => h)
  replace hE4 : Ext s2 s4 := Keeps.trans hE3 hE4
  have hV4 := RdR.keep h (Keeps.trans hE2 hE4) (fun _ _ h => h) (fun _ _ h => h)
  have hW4 := OwR.keep (OwL.keep (OwL.lt hw2 h4) (Keeps.refl (fun _ => False) _) (fun _ _ h => h) (fun c x => RB.lt hw2 c x)) hE4 (fun _ _ h => h) (fun _ _ h => h)
  have h34 := (h3.lt hw2).keep hE4 (fun _ _ h => h)
  have hln := RdL.len h TB
  repeat (first | (refine aw_seq ?_) | (refine aw_reg0 (by simp only [SZ, Nat.reduceAdd]; exact rfl) ?_) | (refine aw_reg (by decide +kernel) (by simp only [SZ, Nat.reduceAdd]; exact rfl) ?_) | (refine aw_regS (by decide +kernel) (by simp only [SZ, Nat.reduceAdd]; exact rfl) ?_) | (refine arl_nil ?_) | (refine aw_skip ?_) | (refine aw_block ?_) | (refine aw_exit ?_) | (refine aw_ret ?_) | (refine arl_cons rfl rfl (by simp +decide only [aop, abuiltin, aeval, aintBin, bin_int, aload_bump, SS, reduceIte, reduceCtorEq, f0, hln]; exact rfl) (by first | rfl | assumption) rfl ?_) | (refine arl_none rfl rfl (by simp +decide only [aop, abuiltin, aeval, aintBin, bin_int, aload_bump, SS, reduceIte, reduceCtorEq, f0, hln]; exact rfl) rfl rfl ?_) | (refine arl_off rfl rfl ?_))
  refine AW.mono (AW.wf (aw_rounds_wf (fun n fr s => Ext s4 s ∧ ∃ (k : Nat), k ≤ ps.length ∧ n = ps.length - k ∧ fr 0 = v ∧ fr 47 = v ∧ fr 48 = i64 ps.length ∧ fr 49 = i64 k ∧ fr 3 = all ∧ fr 4 = wide ∧ fr 9 = a ∧ fr 10 = b) (Q := fun e fr s => e = .exit 2 ∧ Ext s4 s ∧ fr 0 = v ∧ fr 3 = all ∧ fr 4 = wide ∧ fr 9 = a ∧ fr 10 = b) ?_ ps.length _ _ (by repeat (first | assumption | (refine WF.bump ?_ _) | (refine WF.put ?_ (by simp only [n_bump, n_put, n_touch, n_kill] at *; omega) (by simp only [n_bump, n_put, n_touch, n_kill] at *; omega)))) ?_) (by repeat (first | assumption | (refine WF.bump ?_ _) | (refine WF.put ?_ (by simp only [n_bump, n_put, n_touch, n_kill] at *; omega) (by simp only [n_bump, n_put, n_touch, n_kill] at *; omega))))) ?_
  · rintro n fr s hws ⟨hE, k, hk, rfl, f0, fT, fL, fI, f3, f4, f9, f10⟩
    have hEn := hE.n
    have hR := RdR.keep hV4 hE (fun _ _ h => h) (fun _ _ h => h)
    have hW := RdR.keep (OwL.rd hW4) hE (fun _ _ h => h) (fun _ _ h => h)
    repeat (first | (refine aw_seq ?_) | (refine aw_reg0 (by simp only [SZ, Nat.reduceAdd]; exact rfl) ?_) | (refine aw_reg (by decide +kernel) (by simp only [SZ, Nat.reduceAdd]; exact rfl) ?_) | (refine aw_regS (by decide +kernel) (by simp only [SZ, Nat.reduceAdd]; exact rfl) ?_) | (refine arl_nil ?_) | (refine aw_skip ?_) | (refine aw_block ?_) | (refine aw_exit ?_) | (refine aw_ret ?_) | (refine arl_cons rfl rfl (by simp +decide only [aop, abuiltin, aeval, aintBin, bin_int, aload_bump, SS, reduceIte, reduceCtorEq, fL, fI]; exact rfl) (by first | rfl | assumption) rfl ?_) | (refine arl_none rfl rfl (by simp +decide only [aop, abuiltin, aeval, aintBin, bin_int, aload_bump, SS, reduceIte, reduceCtorEq, fL, fI]; exact rfl) rfl rfl ?_) | (refine arl_off rfl rfl ?_))
    (change AW _ _ _ _ _)
    refine aw_cond (by simp +decide only [aop, abuiltin, aeval, aintBin, bin_int, aload_bump, SS, reduceIte, reduceCtorEq]; exact rfl) (fun hc => ?_) (fun hc => ?_)
    · simp only [decide_eq_true_eq] at hc
      have hk2 : k < ps.length := by omega
      obtain ⟨q, c, hp1, hp2, hp3, hp4, hp5⟩ := hR.at .i64 k hk2
      obtain ⟨q', c', hq1, hq2, hq3, hq4, hq5⟩ := hW.at .i64 k (by simpa using hk2)
      rw [List.getElem_map] at hq5
      have hflk := flat_len ps (k + 1)
      rw [flat_succ _ _ hk2, List.length_append] at hflk
      repeat (first | (refine aw_seq ?_) | (refine aw_reg0 (by simp only [SZ, Nat.reduceAdd]; exact rfl) ?_) | (refine aw_reg (by decide +kernel) (by simp only [SZ, Nat.reduceAdd]; exact rfl) ?_) | (refine aw_regS (by decide +kernel) (by simp only [SZ, Nat.reduceAdd]; exact rfl) ?_) | (refine arl_nil ?_) | (refine aw_skip ?_) | (refine aw_block ?_) | (refine aw_exit ?_) | (refine aw_ret ?_) | (refine arl_cons rfl rfl (by simp +decide only [aop, abuiltin, aeval, aintBin, bin_int, aload_bump, SS, reduceIte, reduceCtorEq, fT, fI, hp1, hp3, f4, hq1, hq3]; exact rfl) (by first | rfl | assumption) rfl ?_) | (refine arl_none rfl rfl (by simp +decide only [aop, abuiltin, aeval, aintBin, bin_int, aload_bump, SS, reduceIte, reduceCtorEq, fT, fI, hp1, hp3, f4, hq1, hq3]; exact rfl) rfl rfl ?_) | (refine arl_off rfl rfl ?_))
      refine arl_call rfl rfl rfl rfl rfl rfl ((intact_yes ((by repeat (first | assumption | (refine WF.bump ?_ _) | (refine WF.put ?_ (by simp only [n_bump, n_put, n_touch, n_kill] at *; omega) (by simp only [n_bump, n_put, n_touch, n_kill] at *; omega))))) (hq5.keep (G := fun _ => False) (by repeat (first | assumption | exact Keeps.refl _ _ | (refine Keeps.bumpR ?_ _) | (refine Keeps.put ?_ (by assumption) (by simp only [n_bump, n_put, n_touch, n_kill] at *; omega)))) (fun _ _ h => h)) (hp5.keep (G := fun _ => False) (by repeat (first | assumption | exact Keeps.refl _ _ | (refine Keeps.bumpR ?_ _) | (refine Keeps.put ?_ (by assumption) (by simp only [n_bump, n_put, n_touch, n_kill] at *; omega)))) (fun _ _ h => h)) (by omega)).wf (by repeat (first | assumption | (refine WF.bump ?_ _) | (refine WF.put ?_ (by simp only [n_bump, n_put, n_touch, n_kill] at *; omega) (by simp only [n_bump, n_put, n_touch, n_kill] at *; omega)))) |>.mono ?_)
      rintro r s' ⟨hw', hn', hE', rfl⟩
      refine ⟨rfl, ?_⟩
      replace hE' : Ext s s' := Keeps.trans (by repeat (first | assumption | exact Keeps.refl _ _ | (refine Keeps.bumpR ?_ _) | (refine Keeps.put ?_ (by assumption) (by simp only [n_bump, n_put, n_touch, n_kill] at *; omega)))) hE'
      replace hE' : Ext s4 s' := Keeps.trans hE hE'
      repeat (first | (refine aw_seq ?_) | (refine aw_reg0 (by simp only [SZ, Nat.reduceAdd]; exact rfl) ?_) | (refine aw_reg (by decide +kernel) (by simp only [SZ, Nat.reduceAdd]; exact rfl) ?_) | (refine aw_regS (by decide +kernel) (by simp only [SZ, Nat.reduceAdd]; exact rfl) ?_) | (refine arl_nil ?_) | (refine aw_skip ?_) | (refine aw_block ?_) | (refine aw_exit ?_) | (refine aw_ret ?_) | (refine arl_cons rfl rfl (by simp +decide only [aop, abuiltin, aeval, aintBin, bin_int, aload_bump, SS, reduceIte, reduceCtorEq]; exact rfl) (by first | rfl | assumption) rfl ?_) | (refine arl_none rfl rfl (by simp +decide only [aop, abuiltin, aeval, aintBin, bin_int, aload_bump, SS, reduceIte, reduceCtorEq]; exact rfl) rfl rfl ?_) | (refine arl_off rfl rfl ?_))
      (change AW _ _ _ _ _)
      refine aw_cond (by simp +decide only [aop, abuiltin, aeval, aintBin, bin_int, aload_bump, SS, reduceIte, reduceCtorEq]; exact rfl) (fun hq => ?_) (fun hq => ?_)
      · cases hq
      clear hq
      have hwk : IntKind.i64.wrap ((k : Int) + 1) = ((k + 1 : Nat) : Int) := by rw [wrap64_of (by omega) (by omega)]; omega
      repeat (first | (refine aw_seq ?_) | (refine aw_reg0 (by simp only [SZ, Nat.reduceAdd]; exact rfl) ?_) | (refine aw_reg (by decide +kernel) (by simp only [SZ, Nat.reduceAdd]; exact rfl) ?_) | (refine aw_regS (by decide +kernel) (by simp only [SZ, Nat.reduceAdd]; exact rfl) ?_) | (refine arl_nil ?_) | (refine aw_skip ?_) | (refine aw_block ?_) | (refine aw_exit ?_) | (refine aw_ret ?_) | (refine arl_cons rfl rfl (by simp +decide only [aop, abuiltin, aeval, aintBin, bin_int, aload_bump, SS, reduceIte, reduceCtorEq, fI, hwk]; exact rfl) (by first | rfl | assumption) rfl ?_) | (refine arl_none rfl rfl (by simp +decide only [aop, abuiltin, aeval, aintBin, bin_int, aload_bump, SS, reduceIte, reduceCtorEq, fI, hwk]; exact rfl) rfl rfl ?_) | (refine arl_off rfl rfl ?_))
      exact ⟨ps.length - (k + 1), by omega, (by repeat (first | assumption | exact Keeps.refl _ _ | (refine Keeps.bumpR ?_ _) | (refine Keeps.put ?_ (by assumption) (by simp only [n_bump, n_put, n_touch, n_kill] at *; omega)))), k + 1, by omega, rfl, f0, fT, fL, rfl, f3, f4, f9, f10⟩
    · simp only [decide_eq_false_iff_not] at hc
      repeat (first | (refine aw_seq ?_) | (refine aw_reg0 (by simp only [SZ, Nat.reduceAdd]; exact rfl) ?_) | (refine aw_reg (by decide +kernel) (by simp only [SZ, Nat.reduceAdd]; exact rfl) ?_) | (refine aw_regS (by decide +kernel) (by simp only [SZ, Nat.reduceAdd]; exact rfl) ?_) | (refine arl_nil ?_) | (refine aw_skip ?_) | (refine aw_block ?_) | (refine aw_exit ?_) | (refine aw_ret ?_) | (refine arl_cons rfl rfl (by simp +decide only [aop, abuiltin, aeval, aintBin, bin_int, aload_bump, SS, reduceIte, reduceCtorEq]; exact rfl) (by first | rfl | assumption) rfl ?_) | (refine arl_none rfl rfl (by simp +decide only [aop, abuiltin, aeval, aintBin, bin_int, aload_bump, SS, reduceIte, reduceCtorEq]; exact rfl) rfl rfl ?_) | (refine arl_off rfl rfl ?_))
      exact ⟨rfl, (by repeat (first | assumption | exact Keeps.refl _ _ | (refine Keeps.bumpR ?_ _) | (refine Keeps.put ?_ (by assumption) (by simp only [n_bump, n_put, n_touch, n_kill] at *; omega)))), f0, f3, f4, f9, f10⟩
  · exact ⟨(by repeat (first | assumption | exact Keeps.refl _ _ | (refine Keeps.bumpR ?_ _) | (refine Keeps.put ?_ (by assumption) (by simp only [n_bump, n_put, n_touch, n_kill] at *; omega)))), 0, by omega, rfl, f0, rfl, rfl, rfl, hall, hwide, rfl, rfl⟩
  rintro e fr s5 ⟨hw5, hn5, rfl, hE5, f0, f3, f4, f9, f10⟩
  have hE5n := hE5.n
  repeat (first | (refine aw_seq ?_) | (refine aw_reg0 (by simp only [SZ, Nat.reduceAdd]; exact rfl) ?_) | (refine aw_reg (by decide +kernel) (by simp only [SZ, Nat.reduceAdd]; exact rfl) ?_) | (refine aw_regS (by decide +kernel) (by simp only [SZ, Nat.reduceAdd]; exact rfl) ?_) | (refine arl_nil ?_) | (refine aw_skip ?_) | (refine aw_block ?_) | (refine aw_exit ?_) | (refine aw_ret ?_) | (refine arl_cons rfl rfl (by simp +decide only [aop, abuiltin, aeval, aintBin, bin_int, aload_bump, SS, reduceIte, reduceCtorEq, f3, f9, f10]; exact rfl) (by first | rfl | assumption) rfl ?_) | (refine arl_none rfl rfl (by simp +decide only [aop, abuiltin, aeval, aintBin, bin_int, aload_bump, SS, reduceIte, reduceCtorEq, f3, f9, f10]; exact rfl) rfl rfl ?_) | (refine arl_off rfl rfl ?_))
  refine arl_call rfl rfl rfl rfl rfl rfl ((apart_ok ((by repeat (first | assumption | (refine WF.bump ?_ _) | (refine WF.put ?_ (by simp only [n_bump, n_put, n_touch, n_kill] at *; omega) (by simp only [n_bump, n_put, n_touch, n_kill] at *; omega))))) (hA4.keep (G := fun _ => False) (Keeps.trans hE5 (show Ext s5 _ from (by repeat (first | assumption | exact Keeps.refl _ _ | (refine Keeps.bumpR ?_ _) | (refine Keeps.put ?_ (by assumption) (by simp only [n_bump, n_put, n_touch, n_kill] at *; omega)))))) (fun _ _ h => h)) (hB4.keep (G := fun _ => False) (Keeps.trans hE5 (show Ext s5 _ from (by repeat (first | assumption | exact Keeps.refl _ _ | (refine Keeps.bumpR ?_ _) | (refine Keeps.put ?_ (by assumption) (by simp only [n_bump, n_put, n_touch, n_kill] at *; omega)))))) (fun _ _ h => h)) (h34.rd.keep (G := fun _ => False) (Keeps.trans hE5 (show Ext s5 _ from (by repeat (first | assumption | exact Keeps.refl _ _ | (refine Keeps.bumpR ?_ _) | (refine Keeps.put ?_ (by assumption) (by simp only [n_bump, n_put, n_touch, n_kill] at *; omega)))))) (fun _ _ h => h)) (by simp only [n_bump]; intro g h h'; omega) (by simp only [n_bump]; intro g h h'; omega) (by simp only [n_bump]; intro g h h'; omega) (by omega)).wf (by repeat (first | assumption | (refine WF.bump ?_ _) | (refine WF.put ?_ (by simp only [n_bump, n_put, n_touch, n_kill] at *; omega) (by simp only [n_bump, n_put, n_touch, n_kill] at *; omega)))) |>.mono ?_)
  rintro r s6 ⟨hw6, hn6, hE6, rfl⟩
  refine ⟨rfl, ?_⟩
  have hV6 := RdR.keep (RdR.keep hV4 (Keeps.trans hE5 (show Ext s5 _ from (by repeat (first | assumption | exact Keeps.refl _ _ | (refine Keeps.bumpR ?_ _) | (refine Keeps.put ?_ (by assumption) (by simp only [n_bump, n_put, n_touch, n_kill] at *; omega)))))) (fun _ _ h => h) (fun _ _ h => h)) hE6 (by simp only [n_bump] at *; intro g h h'; omega) (by simp only [n_bump] at *; intro g h h'; omega)
  have hW6 := OwR.keep (OwR.keep hW4 (Keeps.trans hE5 (show Ext s5 _ from (by repeat (first | assumption | exact Keeps.refl _ _ | (refine Keeps.bumpR ?_ _) | (refine Keeps.put ?_ (by assumption) (by simp only [n_bump, n_put, n_touch, n_kill] at *; omega)))))) (fun _ _ h => h) (fun _ _ h => h)) hE6 (by simp only [n_bump] at *; intro g h h'; omega) (by simp only [n_bump] at *; intro g h h'; omega)
  have hE6n := hE6.n
  repeat (first | (refine aw_seq ?_) | (refine aw_reg0 (by simp only [SZ, Nat.reduceAdd]; exact rfl) ?_) | (refine aw_reg (by decide +kernel) (by simp only [SZ, Nat.reduceAdd]; exact rfl) ?_) | (refine aw_regS (by decide +kernel) (by simp only [SZ, Nat.reduceAdd]; exact rfl) ?_) | (refine arl_nil ?_) | (refine aw_skip ?_) | (refine aw_block ?_) | (refine aw_exit ?_) | (refine aw_ret ?_) | (refine arl_cons rfl rfl (by simp +decide only [aop, abuiltin, aeval, aintBin, bin_int, aload_bump, SS, reduceIte, reduceCtorEq]; exact rfl) (by first | rfl | assumption) rfl ?_) | (refine arl_none rfl rfl (by simp +decide only [aop, abuiltin, aeval, aintBin, bin_int, aload_bump, SS, reduceIte, reduceCtorEq]; exact rfl) rfl rfl ?_) | (refine arl_off rfl rfl ?_))
  (change AW _ _ _ _ _)
  refine aw_cond (by simp +decide only [aop, abuiltin, aeval, aintBin, bin_int, aload_bump, SS, reduceIte, reduceCtorEq]; exact rfl) (fun hq => ?_) (fun hq => ?_)
  · cases hq
  clear hq
  repeat (first | (refine aw_seq ?_) | (refine aw_reg0 (by simp only [SZ, Nat.reduceAdd]; exact rfl) ?_) | (refine aw_reg (by decide +kernel) (by simp only [SZ, Nat.reduceAdd]; exact rfl) ?_) | (refine aw_regS (by decide +kernel) (by simp only [SZ, Nat.reduceAdd]; exact rfl) ?_) | (refine arl_nil ?_) | (refine aw_skip ?_) | (refine aw_block ?_) | (refine aw_exit ?_) | (refine aw_ret ?_) | (refine arl_cons rfl rfl (by simp +decide only [aop, abuiltin, aeval, aintBin, bin_int, aload_bump, SS, reduceIte, reduceCtorEq, f0, hln]; exact rfl) (by first | rfl | assumption) rfl ?_) | (refine arl_none rfl rfl (by simp +decide only [aop, abuiltin, aeval, aintBin, bin_int, aload_bump, SS, reduceIte, reduceCtorEq, f0, hln]; exact rfl) rfl rfl ?_) | (refine arl_off rfl rfl ?_))
  refine AW.mono (AW.wf (aw_rounds_wf (fun n fr s => Ext s6 s ∧ ∃ (k : Nat), k ≤ ps.length ∧ n = ps.length - k ∧ fr 0 = v ∧ fr 67 = v ∧ fr 68 = i64 ps.length ∧ fr 69 = i64 k ∧ fr 4 = wide) (Q := fun e fr s => e = .exit 4 ∧ Ext s6 s ∧ fr 0 = v ∧ fr 4 = wide) ?_ ps.length _ _ (by repeat (first | assumption | (refine WF.bump ?_ _) | (refine WF.put ?_ (by simp only [n_bump, n_put, n_touch, n_kill] at *; omega) (by simp only [n_bump, n_put, n_touch, n_kill] at *; omega)))) ?_) (by repeat (first | assumption | (refine WF.bump ?_ _) | (refine WF.put ?_ (by simp only [n_bump, n_put, n_touch, n_kill] at *; omega) (by simp only [n_bump, n_put, n_touch, n_kill] at *; omega))))) ?_
  · rintro n fr s hws ⟨hE, k, hk, rfl, f0, fT, fL, fI, f4⟩
    have hEn := hE.n
    have hR := RdR.keep hV6 hE (fun _ _ h => h) (fun _ _ h => h)
    have hW := RdR.keep (OwL.rd hW6) hE (fun _ _ h => h) (fun _ _ h => h)
    repeat (first | (refine aw_seq ?_) | (refine aw_reg0 (by simp only [SZ, Nat.reduceAdd]; exact rfl) ?_) | (refine aw_reg (by decide +kernel) (by simp only [SZ, Nat.reduceAdd]; exact rfl) ?_) | (refine aw_regS (by decide +kernel) (by simp only [SZ, Nat.reduceAdd]; exact rfl) ?_) | (refine arl_nil ?_) | (refine aw_skip ?_) | (refine aw_block ?_) | (refine aw_exit ?_) | (refine aw_ret ?_) | (refine arl_cons rfl rfl (by simp +decide only [aop, abuiltin, aeval, aintBin, bin_int, aload_bump, SS, reduceIte, reduceCtorEq, fL, fI]; exact rfl) (by first | rfl | assumption) rfl ?_) | (refine arl_none rfl rfl (by simp +decide only [aop, abuiltin, aeval, aintBin, bin_int, aload_bump, SS, reduceIte, reduceCtorEq, fL, fI]; exact rfl) rfl rfl ?_) | (refine arl_off rfl rfl ?_))
    (change AW _ _ _ _ _)
    refine aw_cond (by simp +decide only [aop, abuiltin, aeval, aintBin, bin_int, aload_bump, SS, reduceIte, reduceCtorEq]; exact rfl) (fun hc => ?_) (fun hc => ?_)
    · simp only [decide_eq_true_eq] at hc
      have hk2 : k < ps.length := by omega
      obtain ⟨q, c, hp1, hp2, hp3, hp4, hp5⟩ := hR.at .i64 k hk2
      obtain ⟨q', c', hq1, hq2, hq3, hq4, hq5⟩ := hW.at .i64 k (by simpa using hk2)
      rw [List.getElem_map] at hq5
      have hflk := flat_len ps (k + 1)
      rw [flat_succ _ _ hk2, List.length_append] at hflk
      repeat (first | (refine aw_seq ?_) | (refine aw_reg0 (by simp only [SZ, Nat.reduceAdd]; exact rfl) ?_) | (refine aw_reg (by decide +kernel) (by simp only [SZ, Nat.reduceAdd]; exact rfl) ?_) | (refine aw_regS (by decide +kernel) (by simp only [SZ, Nat.reduceAdd]; exact rfl) ?_) | (refine arl_nil ?_) | (refine aw_skip ?_) | (refine aw_block ?_) | (refine aw_exit ?_) | (refine aw_ret ?_) | (refine arl_cons rfl rfl (by simp +decide only [aop, abuiltin, aeval, aintBin, bin_int, aload_bump, SS, reduceIte, reduceCtorEq, fT, fI, hp1, hp3, f4, hq1, hq3]; exact rfl) (by first | rfl | assumption) rfl ?_) | (refine arl_none rfl rfl (by simp +decide only [aop, abuiltin, aeval, aintBin, bin_int, aload_bump, SS, reduceIte, reduceCtorEq, fT, fI, hp1, hp3, f4, hq1, hq3]; exact rfl) rfl rfl ?_) | (refine arl_off rfl rfl ?_))
      refine arl_call rfl rfl rfl rfl rfl rfl ((intact_yes ((by repeat (first | assumption | (refine WF.bump ?_ _) | (refine WF.put ?_ (by simp only [n_bump, n_put, n_touch, n_kill] at *; omega) (by simp only [n_bump, n_put, n_touch, n_kill] at *; omega))))) (hq5.keep (G := fun _ => False) (by repeat (first | assumption | exact Keeps.refl _ _ | (refine Keeps.bumpR ?_ _) | (refine Keeps.put ?_ (by assumption) (by simp only [n_bump, n_put, n_touch, n_kill] at *; omega)))) (fun _ _ h => h)) (hp5.keep (G := fun _ => False) (by repeat (first | assumption | exact Keeps.refl _ _ | (refine Keeps.bumpR ?_ _) | (refine Keeps.put ?_ (by assumption) (by simp only [n_bump, n_put, n_touch, n_kill] at *; omega)))) (fun _ _ h => h)) (by omega)).wf (by repeat (first | assumption | (refine WF.bump ?_ _) | (refine WF.put ?_ (by simp only [n_bump, n_put, n_touch, n_kill] at *; omega) (by simp only [n_bump, n_put, n_touch, n_kill] at *; omega)))) |>.mono ?_)
      rintro r s' ⟨hw', hn', hE', rfl⟩
      refine ⟨rfl, ?_⟩
      replace hE' : Ext s s' := Keeps.trans (by repeat (first | assumption | exact Keeps.refl _ _ | (refine Keeps.bumpR ?_ _) | (refine Keeps.put ?_ (by assumption) (by simp only [n_bump, n_put, n_touch, n_kill] at *; omega)))) hE'
      replace hE' : Ext s6 s' := Keeps.trans hE hE'
      repeat (first | (refine aw_seq ?_) | (refine aw_reg0 (by simp only [SZ, Nat.reduceAdd]; exact rfl) ?_) | (refine aw_reg (by decide +kernel) (by simp only [SZ, Nat.reduceAdd]; exact rfl) ?_) | (refine aw_regS (by decide +kernel) (by simp only [SZ, Nat.reduceAdd]; exact rfl) ?_) | (refine arl_nil ?_) | (refine aw_skip ?_) | (refine aw_block ?_) | (refine aw_exit ?_) | (refine aw_ret ?_) | (refine arl_cons rfl rfl (by simp +decide only [aop, abuiltin, aeval, aintBin, bin_int, aload_bump, SS, reduceIte, reduceCtorEq]; exact rfl) (by first | rfl | assumption) rfl ?_) | (refine arl_none rfl rfl (by simp +decide only [aop, abuiltin, aeval, aintBin, bin_int, aload_bump, SS, reduceIte, reduceCtorEq]; exact rfl) rfl rfl ?_) | (refine arl_off rfl rfl ?_))
      (change AW _ _ _ _ _)
      refine aw_cond (by simp +decide only [aop, abuiltin, aeval, aintBin, bin_int, aload_bump, SS, reduceIte, reduceCtorEq]; exact rfl) (fun hq => ?_) (fun hq => ?_)
      · cases hq
      clear hq
      have hwk : IntKind.i64.wrap ((k : Int) + 1) = ((k + 1 : Nat) : Int) := by rw [wrap64_of (by omega) (by omega)]; omega
      repeat (first | (refine aw_seq ?_) | (refine aw_reg0 (by simp only [SZ, Nat.reduceAdd]; exact rfl) ?_) | (refine aw_reg (by decide +kernel) (by simp only [SZ, Nat.reduceAdd]; exact rfl) ?_) | (refine aw_regS (by decide +kernel) (by simp only [SZ, Nat.reduceAdd]; exact rfl) ?_) | (refine arl_nil ?_) | (refine aw_skip ?_) | (refine aw_block ?_) | (refine aw_exit ?_) | (refine aw_ret ?_) | (refine arl_cons rfl rfl (by simp +decide only [aop, abuiltin, aeval, aintBin, bin_int, aload_bump, SS, reduceIte, reduceCtorEq, fI, hwk]; exact rfl) (by first | rfl | assumption) rfl ?_) | (refine arl_none rfl rfl (by simp +decide only [aop, abuiltin, aeval, aintBin, bin_int, aload_bump, SS, reduceIte, reduceCtorEq, fI, hwk]; exact rfl) rfl rfl ?_) | (refine arl_off rfl rfl ?_))
      exact ⟨ps.length - (k + 1), by omega, (by repeat (first | assumption | exact Keeps.refl _ _ | (refine Keeps.bumpR ?_ _) | (refine Keeps.put ?_ (by assumption) (by simp only [n_bump, n_put, n_touch, n_kill] at *; omega)))), k + 1, by omega, rfl, f0, fT, fL, rfl, f4⟩
    · simp only [decide_eq_false_iff_not] at hc
      repeat (first | (refine aw_seq ?_) | (refine aw_reg0 (by simp only [SZ, Nat.reduceAdd]; exact rfl) ?_) | (refine aw_reg (by decide +kernel) (by simp only [SZ, Nat.reduceAdd]; exact rfl) ?_) | (refine aw_regS (by decide +kernel) (by simp only [SZ, Nat.reduceAdd]; exact rfl) ?_) | (refine arl_nil ?_) | (refine aw_skip ?_) | (refine aw_block ?_) | (refine aw_exit ?_) | (refine aw_ret ?_) | (refine arl_cons rfl rfl (by simp +decide only [aop, abuiltin, aeval, aintBin, bin_int, aload_bump, SS, reduceIte, reduceCtorEq]; exact rfl) (by first | rfl | assumption) rfl ?_) | (refine arl_none rfl rfl (by simp +decide only [aop, abuiltin, aeval, aintBin, bin_int, aload_bump, SS, reduceIte, reduceCtorEq]; exact rfl) rfl rfl ?_) | (refine arl_off rfl rfl ?_))
      exact ⟨rfl, (by repeat (first | assumption | exact Keeps.refl _ _ | (refine Keeps.bumpR ?_ _) | (refine Keeps.put ?_ (by assumption) (by simp only [n_bump, n_put, n_touch, n_kill] at *; omega)))), f0, f4⟩
  · exact ⟨(by repeat (first | assumption | exact Keeps.refl _ _ | (refine Keeps.bumpR ?_ _) | (refine Keeps.put ?_ (by assumption) (by simp only [n_bump, n_put, n_touch, n_kill] at *; omega)))), 0, by omega, rfl, f0, rfl, rfl, rfl, f4⟩
  rintro e fr s7 ⟨hw7, hn7, rfl, hE7, f0, f4⟩
  repeat (first | (refine aw_seq ?_) | (refine aw_reg0 (by simp only [SZ, Nat.reduceAdd]; exact rfl) ?_) | (refine aw_reg (by decide +kernel) (by simp only [SZ, Nat.reduceAdd]; exact rfl) ?_) | (refine aw_regS (by decide +kernel) (by simp only [SZ, Nat.reduceAdd]; exact rfl) ?_) | (refine arl_nil ?_) | (refine aw_skip ?_) | (refine aw_block ?_) | (refine aw_exit ?_) | (refine aw_ret ?_) | (refine arl_cons rfl rfl (by simp +decide only [aop, abuiltin, aeval, aintBin, bin_int, aload_bump, SS, reduceIte, reduceCtorEq]; exact rfl) (by first | rfl | assumption) rfl ?_) | (refine arl_none rfl rfl (by simp +decide only [aop, abuiltin, aeval, aintBin, bin_int, aload_bump, SS, reduceIte, reduceCtorEq]; exact rfl) rfl rfl ?_) | (refine arl_off rfl rfl ?_))
  refine arl_call rfl rfl rfl rfl rfl rfl ((join_ok (K := fun _ => True) (K' := fun _ => True) (ps := []) ((by repeat (first | assumption | (refine WF.bump ?_ _) | (refine WF.put ?_ (by simp only [n_bump, n_put, n_touch, n_kill] at *; omega) (by simp only [n_bump, n_put, n_touch, n_kill] at *; omega))))) (.inl ⟨rfl, .inl ⟨_, _, rfl⟩⟩) (by simp) (by simp)).dead.wf (by repeat (first | assumption | (refine WF.bump ?_ _) | (refine WF.put ?_ (by simp only [n_bump, n_put, n_touch, n_kill] at *; omega) (by simp only [n_bump, n_put, n_touch, n_kill] at *; omega)))) |>.mono ?_)
  rintro r s8 ⟨hw8, hn8, hd8, hE8, hrs, hO8⟩
  refine ⟨hrs, ?_⟩
  have h8 : s8.get (s7.n + 8) = none := hd8 _ (by simp only [n_bump]; omega) (fresh hw7 (by omega))
  have hl8 := hO8.rd.len
  repeat (first | (refine aw_seq ?_) | (refine aw_reg0 (by simp only [SZ, Nat.reduceAdd]; exact rfl) ?_) | (refine aw_reg (by decide +kernel) (by simp only [SZ, Nat.reduceAdd]; exact rfl) ?_) | (refine aw_regS (by decide +kernel) (by simp only [SZ, Nat.reduceAdd]; exact rfl) ?_) | (refine arl_nil ?_) | (refine aw_skip ?_) | (refine aw_block ?_) | (refine aw_exit ?_) | (refine aw_ret ?_) | (refine arl_cons rfl rfl (by simp +decide only [aop, abuiltin, aeval, aintBin, bin_int, aload_bump, SS, reduceIte, reduceCtorEq, hl8, lit1, lit89, litR3]; exact rfl) (by first | rfl | assumption) rfl ?_) | (refine arl_none rfl rfl (by simp +decide only [aop, abuiltin, aeval, aintBin, bin_int, aload_bump, SS, reduceIte, reduceCtorEq, hl8, lit1, lit89, litR3]; exact rfl) rfl rfl ?_) | (refine arl_off rfl rfl ?_))
  refine arl_call rfl rfl rfl rfl rfl rfl ((join_ok (K := fun _ => True) (K' := fun _ => True) (ps := [[7], [], [8, 9]]) ((by repeat (first | assumption | (refine WF.bump ?_ _) | (refine WF.put ?_ (by simp only [n_bump, n_put, n_touch, n_kill] at *; omega) (by simp only [n_bump, n_put, n_touch, n_kill] at *; omega))))) (.inr ⟨_, 0, true, _, rfl, get_put _ _, trivial, Nat.le_refl _, fun j x hx => ?_⟩) (by simp) (by simp)).dead.wf (by repeat (first | assumption | (refine WF.bump ?_ _) | (refine WF.put ?_ (by simp only [n_bump, n_put, n_touch, n_kill] at *; omega) (by simp only [n_bump, n_put, n_touch, n_kill] at *; omega)))) |>.mono ?_)
  · match j, hx with
    | 0, hx =>
      cases hx
      exact ⟨_, rfl, OwB.rd (K := fun _ => True) (xs := [7]) (.inr ⟨_, s7.n + 4, rfl, by simp [St.put, St.bump], trivial⟩)⟩
    | 1, hx =>
      cases hx
      exact ⟨_, rfl, .inl ⟨rfl, .inl ⟨_, _, rfl⟩⟩⟩
    | 2, hx =>
      cases hx
      exact ⟨_, rfl, OwB.rd (K := fun _ => True) (xs := [8, 9]) (.inr ⟨_, s7.n + 5, rfl, by simp [St.put, St.bump], trivial⟩)⟩
    | j + 3, hx => simp at hx
  rintro r9 s9 ⟨hw9, hn9, hd9, hE9, hrs9, hO9⟩
  have h9 : s9.get (s7.n + 8) = none := hd9 _ (by simp only [n_bump, n_put] at *; omega) (by simp [St.put, St.bump, h8])
  refine ⟨hrs9, ?_⟩
  repeat (first | (refine aw_seq ?_) | (refine aw_reg0 (by simp only [SZ, Nat.reduceAdd]; exact rfl) ?_) | (refine aw_reg (by decide +kernel) (by simp only [SZ, Nat.reduceAdd]; exact rfl) ?_) | (refine aw_regS (by decide +kernel) (by simp only [SZ, Nat.reduceAdd]; exact rfl) ?_) | (refine arl_nil ?_) | (refine aw_skip ?_) | (refine aw_block ?_) | (refine aw_exit ?_) | (refine aw_ret ?_) | (refine arl_cons rfl rfl (by simp +decide only [aop, abuiltin, aeval, aintBin, bin_int, aload_bump, SS, reduceIte, reduceCtorEq, lit789]; exact rfl) (by first | rfl | assumption) rfl ?_) | (refine arl_none rfl rfl (by simp +decide only [aop, abuiltin, aeval, aintBin, bin_int, aload_bump, SS, reduceIte, reduceCtorEq, lit789]; exact rfl) rfl rfl ?_) | (refine arl_off rfl rfl ?_))
  refine arl_call rfl rfl rfl rfl rfl rfl ((same_self (xs := [7, 8, 9]) ((by repeat (first | assumption | (refine WF.bump ?_ _) | (refine WF.put ?_ (by simp only [n_bump, n_put, n_touch, n_kill] at *; omega) (by simp only [n_bump, n_put, n_touch, n_kill] at *; omega))))) (hO9.rd.keep (G := fun _ => False) (Keeps.putF (Keeps.refl _ _) ?_) (fun _ _ h => h)) (RdB.lit _ _ _ _) (by simp)).wf (by repeat (first | assumption | (refine WF.bump ?_ _) | (refine WF.put ?_ (by simp only [n_bump, n_put, n_touch, n_kill] at *; omega) (by simp only [n_bump, n_put, n_touch, n_kill] at *; omega)))) |>.mono ?_)
  · exact h9
  rintro r s10 ⟨hw10, hn10, hE10, rfl⟩
  refine ⟨rfl, ?_⟩
  repeat (first | (refine aw_seq ?_) | (refine aw_reg0 (by simp only [SZ, Nat.reduceAdd]; exact rfl) ?_) | (refine aw_reg (by decide +kernel) (by simp only [SZ, Nat.reduceAdd]; exact rfl) ?_) | (refine aw_regS (by decide +kernel) (by simp only [SZ, Nat.reduceAdd]; exact rfl) ?_) | (refine arl_nil ?_) | (refine aw_skip ?_) | (refine aw_block ?_) | (refine aw_exit ?_) | (refine aw_ret ?_) | (refine arl_cons rfl rfl (by simp +decide only [aop, abuiltin, aeval, aintBin, bin_int, aload_bump, SS, reduceIte, reduceCtorEq]; exact rfl) (by first | rfl | assumption) rfl ?_) | (refine arl_none rfl rfl (by simp +decide only [aop, abuiltin, aeval, aintBin, bin_int, aload_bump, SS, reduceIte, reduceCtorEq]; exact rfl) rfl rfl ?_) | (refine arl_off rfl rfl ?_))
  exact ⟨.inr rfl, _, rfl, rfl⟩
theorem RB.of {st : St} (c : List AV) (x : List Int) (h : ∃ v, c = [v] ∧ RdL st (fun _ => True) 1 (fun cs n => cs = [.pl (.int .u8 n)]) v x) : RB st (fun _ => True) c x := by
  obtain ⟨v, h1, h2⟩ := h
  exact ⟨v, h1, RdL.bytes h2⟩
theorem CursorJoins_small {st : St} (hw : WF st) {v : AV} {ps : List (List Int)} (h : RdL st (fun _ => True) 1 (fun cs xs => ∃ v, cs = [v] ∧ RdL st (fun _ => True) 1 (fun cs n => cs = [.pl (.int .u8 n)]) v xs) v ps)
    (good : ∀ x ∈ ps, ∀ y ∈ x, (Lit.int .u8 y).wf = true) (hb : (ps.map fun xs : List Int => (xs.map fun _ => 1).sum + 1).sum + 1 ≤ 1048576) : ACalls Try.prog 3 [v] st (fun r s => r = .pl (.bool true)) := by
  refine joins_ok hw (RdL.keep h (Keeps.refl (fun _ => False) _) (fun _ _ h => h) (fun c x => RB.of c x)) ?_
  have e : (fun xs : List Int => (xs.map fun _ => 1).sum + 1) = fun p : List Int => p.length + 1 := by
    funext xs
    have : ∀ l : List Int, (l.map fun _ => 1).sum = l.length := by
      intro l
      induction l with
      | nil => rfl
      | cons x l ih => rw [List.map_cons, List.sum_cons, ih, List.length_cons]; omega
    rw [this]
  rw [e] at hb
  omega
end Go.Proofs.Ytfffpjogpefomaa.Ra
