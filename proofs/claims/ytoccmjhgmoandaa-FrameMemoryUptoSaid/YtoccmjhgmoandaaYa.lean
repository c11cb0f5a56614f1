/- leatref17.All; leatlaw17.FrameHolds. -/
import Derived.Test.YtoccmjhgmoandaaXk
namespace Go.Proofs.Ytoccmjhgmoandaa.Ra
open Go Go.RowKit
set_option linter.unusedVariables false
set_option linter.unusedSimpArgs false
set_option maxRecDepth 10000
set_option maxHeartbeats 2000000 in
theorem rall_ok {st : St} (hw : WF st) {K : Nat → Prop} {v : AV} {ps : List (List Int)} (h : RdE rowK st K v ps) (hl : ps.flatten.length + ps.length ≤ 10000000) :
    ACalls Try.prog 22 [v] st (fun r s => Ext st s ∧ r.solid = true ∧ OwB s (fun g => st.n ≤ g) r ps.flatten) := by
  have hvs := h.solid
  have hln := RdE.len h TRr
  refine acalls_of Try.func22 rfl (by kernel_rfl) (by simp [hvs]) ?_
  repeat (first | (refine aw_seq ?_) | (refine aw_reg0 (by simp only [SZ, Nat.reduceAdd]; exact rfl) ?_) | (refine aw_reg (by decide +kernel) (by simp only [SZ, Nat.reduceAdd]; exact rfl) ?_) | (refine aw_regS (by decide +kernel) (by simp only [SZ, Nat.reduceAdd]; exact rfl) ?_) | (refine arl_nil ?_) | (refine aw_skip ?_) | (refine aw_block ?_) | (refine aw_exit ?_) | (refine aw_ret ?_) | (refine arl_cons rfl rfl (by simp +decide only [aop, abuiltin, aeval, aintBin, bin_int, aload_bump, SS, reduceIte, reduceCtorEq, lit0]; exact rfl) (by first | rfl | with_reducible assumption) rfl ?_) | (refine arl_none rfl rfl (by simp +decide only [aop, abuiltin, aeval, aintBin, bin_int, aload_bump, SS, reduceIte, reduceCtorEq, lit0]; exact rfl) rfl rfl ?_) | (refine arl_off rfl rfl ?_) | (refine aw_condT (by simp +decide only [aop, abuiltin, aeval, aintBin, bin_int, aload_bump, SS, reduceIte, reduceCtorEq, lit0]; first | done | exact rfl) ?_) | (refine aw_condF (by simp +decide only [aop, abuiltin, aeval, aintBin, bin_int, aload_bump, SS, reduceIte, reduceCtorEq, lit0]; first | done | exact rfl) ?_))
  refine aw_rounds_wf (fun m fr s => Ext st s ∧ ∃ k : Nat, k ≤ ps.length ∧ m = ps.length - k ∧ fr 0 = v ∧ fr 4 = i64 k ∧ OwB s (fun g => st.n ≤ g) (fr 3) (ps.take k).flatten) ?_ ps.length _ _ (by repeat (first | assumption | (refine WF.bump ?_ _) | (refine WF.put ?_ (by simp only [n_bump, n_put, n_touch, n_kill] at *; omega) (by simp only [n_bump, n_put, n_touch, n_kill] at *; omega)))) ?_
  · rintro m fr sx hwx ⟨hE, k, hk, rfl, f0, f4, hO⟩
    have hEn := hE.n
    have hos := hO.solid
    by_cases hlt : k < ps.length
    · have d1 : decide ((k : Int) < (ps.length : Int)) = true := decide_eq_true (by omega)
      have hfl := flatF_le ps (k + 1)
      rw [flatF_succ ps k hlt, List.length_append] at hfl
      repeat (first | (refine aw_seq ?_) | (refine aw_reg0 (by simp only [SZ, Nat.reduceAdd]; exact rfl) ?_) | (refine aw_reg (by decide +kernel) (by simp only [SZ, Nat.reduceAdd]; exact rfl) ?_) | (refine aw_regS (by decide +kernel) (by simp only [SZ, Nat.reduceAdd]; exact rfl) ?_) | (refine arl_nil ?_) | (refine aw_skip ?_) | (refine aw_block ?_) | (refine aw_exit ?_) | (refine aw_ret ?_) | (refine arl_cons rfl rfl (by simp +decide only [aop, abuiltin, aeval, aintBin, bin_int, aload_bump, SS, reduceIte, reduceCtorEq, f0, f4, hln, d1]; exact rfl) (by first | rfl | with_reducible assumption) rfl ?_) | (refine arl_none rfl rfl (by simp +decide only [aop, abuiltin, aeval, aintBin, bin_int, aload_bump, SS, reduceIte, reduceCtorEq, f0, f4, hln, d1]; exact rfl) rfl rfl ?_) | (refine arl_off rfl rfl ?_) | (refine aw_condT (by simp +decide only [aop, abuiltin, aeval, aintBin, bin_int, aload_bump, SS, reduceIte, reduceCtorEq, f0, f4, hln, d1]; first | done | exact rfl) ?_) | (refine aw_condF (by simp +decide only [aop, abuiltin, aeval, aintBin, bin_int, aload_bump, SS, reduceIte, reduceCtorEq, f0, f4, hln, d1]; first | done | exact rfl) ?_))
      refine aw_rounds_wf (fun m fr s => Ext st s ∧ ∃ j : Nat, j ≤ ps[k].length ∧ m = ps[k].length - j ∧ fr 0 = v ∧ fr 4 = i64 k ∧ fr 5 = i64 j ∧ OwB s (fun g => st.n ≤ g) (fr 3) ((ps.take k).flatten ++ ps[k].take j)) ?_ ps[k].length _ _ (by repeat (first | assumption | (refine WF.bump ?_ _) | (refine WF.put ?_ (by simp only [n_bump, n_put, n_touch, n_kill] at *; omega) (by simp only [n_bump, n_put, n_touch, n_kill] at *; omega)))) ?_
      · rintro m fr sy hwy ⟨hEy, j, hj, rfl, g0, g4, g5, hOy⟩
        have hEny := hEy.n
        have hosy := hOy.solid
        obtain ⟨q, c, a1, a2, a3, a4, a5⟩ := row_at (h.up hEy) .i64 k hlt
        have hcl := a5.len
        by_cases hjl : j < ps[k].length
        · have d2 : decide ((j : Int) < (ps[k].length : Int)) = true := decide_eq_true (by omega)
          obtain ⟨p, hp1, hp2, hp3⟩ := a5.atN .i64 j hjl
          repeat (first | (refine aw_seq ?_) | (refine aw_reg0 (by simp only [SZ, Nat.reduceAdd]; exact rfl) ?_) | (refine aw_reg (by decide +kernel) (by simp only [SZ, Nat.reduceAdd]; exact rfl) ?_) | (refine aw_regS (by decide +kernel) (by simp only [SZ, Nat.reduceAdd]; exact rfl) ?_) | (refine arl_nil ?_) | (refine aw_skip ?_) | (refine aw_block ?_) | (refine aw_exit ?_) | (refine aw_ret ?_) | (refine arl_cons rfl rfl (by simp +decide only [aop, abuiltin, aeval, aintBin, bin_int, aload_bump, SS, reduceIte, reduceCtorEq, g0, g4, g5, a1, a3, hcl, d2, hp1, hp3, lit1]; exact rfl) (by first | rfl | with_reducible assumption) rfl ?_) | (refine arl_none rfl rfl (by simp +decide only [aop, abuiltin, aeval, aintBin, bin_int, aload_bump, SS, reduceIte, reduceCtorEq, g0, g4, g5, a1, a3, hcl, d2, hp1, hp3, lit1]; exact rfl) rfl rfl ?_) | (refine arl_off rfl rfl ?_) | (refine aw_condT (by simp +decide only [aop, abuiltin, aeval, aintBin, bin_int, aload_bump, SS, reduceIte, reduceCtorEq, g0, g4, g5, a1, a3, hcl, d2, hp1, hp3, lit1]; first | done | exact rfl) ?_) | (refine aw_condF (by simp +decide only [aop, abuiltin, aeval, aintBin, bin_int, aload_bump, SS, reduceIte, reduceCtorEq, g0, g4, g5, a1, a3, hcl, d2, hp1, hp3, lit1]; first | done | exact rfl) ?_))
          refine arl_app (K := fun g => st.n ≤ g) (K' := fun _ => True) (xs := (ps.take k).flatten ++ ps[k].take j) (ns := [ps[k][j]]) rfl rfl rfl (hOy.keep (G := fun _ => False) (by repeat (first | assumption | exact Keeps.refl _ _ | (refine Keeps.bumpR ?_ _) | (refine Keeps.put ?_ (by assumption) (by simp only [n_bump, n_put, n_touch, n_kill] at *; omega)))) (fun _ _ h => h)) (RdB.lit _ _ _ [ps[k][j]]) (by simp only [n_bump]; omega) (by rw [List.length_append, List.length_take, List.length_singleton]; omega) ?_
          intro y s2 hO2 hn2 hK2
          have hys := hO2.solid
          have hE2 : Ext st s2 := hK2 _ st hw (by repeat (first | assumption | exact Keeps.refl _ _ | (refine Keeps.bumpR ?_ _) | (refine Keeps.put ?_ (by assumption) (by simp only [n_bump, n_put, n_touch, n_kill] at *; omega)))) (by simp only [n_bump, n_put, n_touch, n_kill] at *; omega) (fun g hg => .inr hg)
          have hwk := wrap_succ (k := j) (by omega)
          repeat (first | (refine aw_seq ?_) | (refine aw_reg0 (by simp only [SZ, Nat.reduceAdd]; exact rfl) ?_) | (refine aw_reg (by decide +kernel) (by simp only [SZ, Nat.reduceAdd]; exact rfl) ?_) | (refine aw_regS (by decide +kernel) (by simp only [SZ, Nat.reduceAdd]; exact rfl) ?_) | (refine arl_nil ?_) | (refine aw_skip ?_) | (refine aw_block ?_) | (refine aw_exit ?_) | (refine aw_ret ?_) | (refine arl_cons rfl rfl (by simp +decide only [aop, abuiltin, aeval, aintBin, bin_int, aload_bump, SS, reduceIte, reduceCtorEq, g5, hwk]; exact rfl) (by first | rfl | with_reducible assumption) rfl ?_) | (refine arl_none rfl rfl (by simp +decide only [aop, abuiltin, aeval, aintBin, bin_int, aload_bump, SS, reduceIte, reduceCtorEq, g5, hwk]; exact rfl) rfl rfl ?_) | (refine arl_off rfl rfl ?_) | (refine aw_condT (by simp +decide only [aop, abuiltin, aeval, aintBin, bin_int, aload_bump, SS, reduceIte, reduceCtorEq, g5, hwk]; first | done | exact rfl) ?_) | (refine aw_condF (by simp +decide only [aop, abuiltin, aeval, aintBin, bin_int, aload_bump, SS, reduceIte, reduceCtorEq, g5, hwk]; first | done | exact rfl) ?_))
          refine ⟨ps[k].length - (j + 1), by omega, hE2.trans (by repeat (first | exact Keeps.refl _ _ | (refine Keeps.bumpR ?_ _))), j + 1, by omega, rfl, g0, g4, rfl, ?_⟩
          rw [List.take_succ_eq_append_getElem hjl, ← List.append_assoc]
          exact hO2.up (by repeat (first | exact Keeps.refl _ _ | (refine Keeps.bumpR ?_ _)))
        · have d2 : decide ((j : Int) < (ps[k].length : Int)) = false := decide_eq_false (by omega)
          obtain rfl : j = ps[k].length := by omega
          have hwk := wrap_succ (k := k) (by omega)
          rw [List.take_length, ← flatF_succ ps k hlt] at hOy
          repeat (first | (refine aw_seq ?_) | (refine aw_reg0 (by simp only [SZ, Nat.reduceAdd]; exact rfl) ?_) | (refine aw_reg (by decide +kernel) (by simp only [SZ, Nat.reduceAdd]; exact rfl) ?_) | (refine aw_regS (by decide +kernel) (by simp only [SZ, Nat.reduceAdd]; exact rfl) ?_) | (refine arl_nil ?_) | (refine aw_skip ?_) | (refine aw_block ?_) | (refine aw_exit ?_) | (refine aw_ret ?_) | (refine arl_cons rfl rfl (by simp +decide only [aop, abuiltin, aeval, aintBin, bin_int, aload_bump, SS, reduceIte, reduceCtorEq, g0, g4, g5, a1, a3, hcl, d2, hwk]; exact rfl) (by first | rfl | with_reducible assumption) rfl ?_) | (refine arl_none rfl rfl (by simp +decide only [aop, abuiltin, aeval, aintBin, bin_int, aload_bump, SS, reduceIte, reduceCtorEq, g0, g4, g5, a1, a3, hcl, d2, hwk]; exact rfl) rfl rfl ?_) | (refine arl_off rfl rfl ?_) | (refine aw_condT (by simp +decide only [aop, abuiltin, aeval, aintBin, bin_int, aload_bump, SS, reduceIte, reduceCtorEq, g0, g4, g5, a1, a3, hcl, d2, hwk]; first | done | exact rfl) ?_) | (refine aw_condF (by simp +decide only [aop, abuiltin, aeval, aintBin, bin_int, aload_bump, SS, reduceIte, reduceCtorEq, g0, g4, g5, a1, a3, hcl, d2, hwk]; first | done | exact rfl) ?_))
          exact ⟨ps.length - (k + 1), by omega, hEy.trans (by repeat (first | exact Keeps.refl _ _ | (refine Keeps.bumpR ?_ _))), k + 1, by omega, rfl, g0, rfl, hOy.up (by repeat (first | exact Keeps.refl _ _ | (refine Keeps.bumpR ?_ _)))⟩
      · refine ⟨hE.trans (by repeat (first | exact Keeps.refl _ _ | (refine Keeps.bumpR ?_ _))), 0, by omega, rfl, f0, f4, rfl, ?_⟩
        rw [List.take_zero, List.append_nil]
        exact hO.up (by repeat (first | exact Keeps.refl _ _ | (refine Keeps.bumpR ?_ _)))
    · have d1 : decide ((k : Int) < (ps.length : Int)) = false := decide_eq_false (by omega)
      obtain rfl : k = ps.length := by omega
      rw [List.take_length] at hO
      repeat (first | (refine aw_seq ?_) | (refine aw_reg0 (by simp only [SZ, Nat.reduceAdd]; exact rfl) ?_) | (refine aw_reg (by decide +kernel) (by simp only [SZ, Nat.reduceAdd]; exact rfl) ?_) | (refine aw_regS (by decide +kernel) (by simp only [SZ, Nat.reduceAdd]; exact rfl) ?_) | (refine arl_nil ?_) | (refine aw_skip ?_) | (refine aw_block ?_) | (refine aw_exit ?_) | (refine aw_ret ?_) | (refine arl_cons rfl rfl (by simp +decide only [aop, abuiltin, aeval, aintBin, bin_int, aload_bump, SS, reduceIte, reduceCtorEq, f0, f4, hln, d1]; exact rfl) (by first | rfl | with_reducible assumption) rfl ?_) | (refine arl_none rfl rfl (by simp +decide only [aop, abuiltin, aeval, aintBin, bin_int, aload_bump, SS, reduceIte, reduceCtorEq, f0, f4, hln, d1]; exact rfl) rfl rfl ?_) | (refine arl_off rfl rfl ?_) | (refine aw_condT (by simp +decide only [aop, abuiltin, aeval, aintBin, bin_int, aload_bump, SS, reduceIte, reduceCtorEq, f0, f4, hln, d1]; first | done | exact rfl) ?_) | (refine aw_condF (by simp +decide only [aop, abuiltin, aeval, aintBin, bin_int, aload_bump, SS, reduceIte, reduceCtorEq, f0, f4, hln, d1]; first | done | exact rfl) ?_))
      exact ⟨.inr rfl, _, rfl, hE.trans (by repeat (first | exact Keeps.refl _ _ | (refine Keeps.bumpR ?_ _))), hos, hO.up (by repeat (first | exact Keeps.refl _ _ | (refine Keeps.bumpR ?_ _)))⟩
  · exact ⟨(by repeat (first | assumption | exact Keeps.refl _ _ | (refine Keeps.bumpR ?_ _) | (refine Keeps.put ?_ (by assumption) (by simp only [n_bump, n_put, n_touch, n_kill] at *; omega)))), 0, by omega, rfl, rfl, rfl, .inr ⟨_, _, rfl, get_put _ _, (by simp only [n_bump, n_put, n_touch, n_kill] at *; omega)⟩⟩
/-- What FrameHolds asks of two streams one behind the other. -/
theorem holds_laws {M : Int} (h0 : 0 ≤ M) {b c : List Int} {fs : List (List Int)} (hfs : (cutS M (b ++ c)).1 = (cutS M b).1 ++ fs) (he : (cutS M b).2.2 ≠ 0 → fs = []) :
    ((cutS M b).2.2 ≠ 0 → stOf (b ++ c) (cutS M (b ++ c)) = stOf b (cutS M b)) ∧ (∀ f ∈ fs, (f.length : Int) ≤ M) ∧ ((cutS M (b ++ c)).2.2 = 0 → ((cutS M (b ++ c)).2.1.length : Int) ≤ M + 4) ∧ (cutS M (b ++ c)).2.1.length ≤ (b ++ c).length := by
  obtain ⟨k1, k2, k3, -⟩ := cutS_ok M (b ++ c).length (b ++ c) (Nat.le_refl _)
  have happ := cutS_app M c b.length b (Nat.le_refl _)
  refine ⟨fun h => ?_, fun f hf => k3 f (by rw [hfs]; exact List.mem_append_right _ hf), fun h => ?_, k2⟩
  · rw [if_neg h] at happ
    rw [happ]
    unfold stOf
    simp only [List.length_append, if_neg h]
    congr 1
    omega
  · rcases k1 h with h1 | h1 <;> omega
end Go.Proofs.Ytoccmjhgmoandaa.Ra
