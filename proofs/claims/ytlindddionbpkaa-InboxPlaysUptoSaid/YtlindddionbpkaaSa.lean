/- The small helpers that all statements use: what they answer. -/
import Derived.Test.YtlindddionbpkaaRo
namespace Go.Proofs.Ytlindddionbpkaa.Ra
open Go Go.RowKit
set_option linter.unusedVariables false
set_option linter.unusedSimpArgs false
set_option maxRecDepth 10000
theorem wrap64_of {x : Int} (h0 : -9223372036854775808 ≤ x) (h1 : x ≤ 9223372036854775807) : IntKind.i64.wrap x = x := by rw [IntKind.wrap_i64]; omega
theorem copy_ok {st : St} (hw : WF st) {K : Nat → Prop} {v : AV} {xs : List Int} (h : RdB st K v xs) (hl : xs.length ≤ 140737488355327) :
    ACalls Try.prog 9 [v] st (fun r s => Ext st s ∧ r.solid = true ∧ OwB s (fun g => st.n ≤ g) r xs) := by
  refine acalls_of Try.func9 rfl (by kernel_rfl) (by simp [h.solid]) ?_
  repeat (first | (refine aw_seq ?_) | (refine aw_reg0 (by simp only [SZ, Nat.reduceAdd]; exact rfl) ?_) | (refine aw_reg (by decide +kernel) (by simp only [SZ, Nat.reduceAdd]; exact rfl) ?_) | (refine aw_regS (by decide +kernel) (by simp only [SZ, Nat.reduceAdd]; exact rfl) ?_) | (refine arl_nil ?_) | (refine aw_skip ?_) | (refine aw_block ?_) | (refine aw_exit ?_) | (refine aw_ret ?_) | (refine arl_cons rfl rfl (by simp +decide only [aop, abuiltin, aeval, aintBin, bin_int, aload_bump, SS, reduceIte, reduceCtorEq, lit0]; exact rfl) (by first | rfl | with_reducible assumption) rfl ?_) | (refine arl_none rfl rfl (by simp +decide only [aop, abuiltin, aeval, aintBin, bin_int, aload_bump, SS, reduceIte, reduceCtorEq, lit0]; exact rfl) rfl rfl ?_) | (refine arl_off rfl rfl ?_))
  refine aw_rounds_wf (fun n fr s => Ext st s ∧ ∃ (k : Nat), k ≤ xs.length ∧ n = xs.length - k ∧ fr 0 = v ∧ fr 4 = i64 k ∧ OwB s (fun g => st.n ≤ g) (fr 3) (xs.take k)) ?_ xs.length _ _ (by repeat (first | assumption | (refine WF.bump ?_ _) | (refine WF.put ?_ (by simp only [n_bump, n_put, n_touch, n_kill] at *; omega) (by simp only [n_bump, n_put, n_touch, n_kill] at *; omega)))) ?_
  · rintro n fr s hws ⟨hE, k, hk, rfl, f0, f4, hO⟩
    have hR := h.keep hE (fun _ _ h => h)
    have hvs := h.solid
    have hos := hO.solid
    have hEn := hE.n
    repeat (first | (refine aw_seq ?_) | (refine aw_reg0 (by simp only [SZ, Nat.reduceAdd]; exact rfl) ?_) | (refine aw_reg (by decide +kernel) (by simp only [SZ, Nat.reduceAdd]; exact rfl) ?_) | (refine aw_regS (by decide +kernel) (by simp only [SZ, Nat.reduceAdd]; exact rfl) ?_) | (refine arl_nil ?_) | (refine aw_skip ?_) | (refine aw_block ?_) | (refine aw_exit ?_) | (refine aw_ret ?_) | (refine arl_cons rfl rfl (by simp +decide only [aop, abuiltin, aeval, aintBin, bin_int, aload_bump, SS, reduceIte, reduceCtorEq, f0, f4, hR.len]; exact rfl) (by first | rfl | with_reducible assumption) rfl ?_) | (refine arl_none rfl rfl (by simp +decide only [aop, abuiltin, aeval, aintBin, bin_int, aload_bump, SS, reduceIte, reduceCtorEq, f0, f4, hR.len]; exact rfl) rfl rfl ?_) | (refine arl_off rfl rfl ?_))
    (change AW _ _ _ _ _)
    refine aw_cond (by simp +decide only [aop, abuiltin, aeval, aintBin, bin_int, aload_bump, SS, reduceIte, reduceCtorEq]; exact rfl) (fun hc => ?_) (fun hc => ?_)
    · simp only [decide_eq_true_eq] at hc
      have hk2 : k < xs.length := by omega
      obtain ⟨p, hp1, hp2, hp3⟩ := hR.atN .i64 k hk2
      repeat (first | (refine aw_seq ?_) | (refine aw_reg0 (by simp only [SZ, Nat.reduceAdd]; exact rfl) ?_) | (refine aw_reg (by decide +kernel) (by simp only [SZ, Nat.reduceAdd]; exact rfl) ?_) | (refine aw_regS (by decide +kernel) (by simp only [SZ, Nat.reduceAdd]; exact rfl) ?_) | (refine arl_nil ?_) | (refine aw_skip ?_) | (refine aw_block ?_) | (refine aw_exit ?_) | (refine aw_ret ?_) | (refine arl_cons rfl rfl (by simp +decide only [aop, abuiltin, aeval, aintBin, bin_int, aload_bump, SS, reduceIte, reduceCtorEq, f0, f4, hp1, hp3, lit1]; exact rfl) (by first | rfl | with_reducible assumption) rfl ?_) | (refine arl_none rfl rfl (by simp +decide only [aop, abuiltin, aeval, aintBin, bin_int, aload_bump, SS, reduceIte, reduceCtorEq, f0, f4, hp1, hp3, lit1]; exact rfl) rfl rfl ?_) | (refine arl_off rfl rfl ?_))
      refine arl_app (K := fun g => st.n ≤ g) (K' := fun _ => True) (xs := xs.take k) (ns := [xs[k]]) rfl rfl rfl (hO.keep (G := fun _ => False) (by repeat (first | assumption | exact Keeps.refl _ _ | (refine Keeps.bumpR ?_ _) | (refine Keeps.put ?_ (by assumption) (by simp only [n_bump, n_put, n_touch, n_kill] at *; omega)))) (fun _ _ h => h)) (RdB.lit _ _ _ [xs[k]]) (by simp only [n_bump]; omega) (by simp; omega) ?_
      intro y s2 hO2 hn2 hK2
      have hys := hO2.solid
      have hE2 : Ext st s2 := hK2 _ st hw (by repeat (first | assumption | exact Keeps.refl _ _ | (refine Keeps.bumpR ?_ _) | (refine Keeps.put ?_ (by assumption) (by simp only [n_bump, n_put, n_touch, n_kill] at *; omega)))) (by simp only [n_bump, n_put, n_touch, n_kill] at *; omega) (fun g hg => .inr hg)
      repeat (first | (refine aw_seq ?_) | (refine aw_reg0 (by simp only [SZ, Nat.reduceAdd]; exact rfl) ?_) | (refine aw_reg (by decide +kernel) (by simp only [SZ, Nat.reduceAdd]; exact rfl) ?_) | (refine aw_regS (by decide +kernel) (by simp only [SZ, Nat.reduceAdd]; exact rfl) ?_) | (refine arl_nil ?_) | (refine aw_skip ?_) | (refine aw_block ?_) | (refine aw_exit ?_) | (refine aw_ret ?_) | (refine arl_cons rfl rfl (by simp +decide only [aop, abuiltin, aeval, aintBin, bin_int, aload_bump, SS, reduceIte, reduceCtorEq, f0, f4]; exact rfl) (by first | rfl | with_reducible assumption) rfl ?_) | (refine arl_none rfl rfl (by simp +decide only [aop, abuiltin, aeval, aintBin, bin_int, aload_bump, SS, reduceIte, reduceCtorEq, f0, f4]; exact rfl) rfl rfl ?_) | (refine arl_off rfl rfl ?_))
      have hwk : IntKind.i64.wrap ((k : Int) + 1) = ((k + 1 : Nat) : Int) := by rw [wrap64_of (by omega) (by omega)]; omega
      refine ⟨xs.length - (k + 1), by omega, (by repeat (first | assumption | exact Keeps.refl _ _ | (refine Keeps.bumpR ?_ _) | (refine Keeps.put ?_ (by assumption) (by simp only [n_bump, n_put, n_touch, n_kill] at *; omega)))), k + 1, by omega, rfl, f0, ?_, ?_⟩
      · rw [← hwk]; rfl
      · rw [List.take_succ_eq_append_getElem hk2]; exact hO2
    · simp only [decide_eq_false_iff_not] at hc
      repeat (first | (refine aw_seq ?_) | (refine aw_reg0 (by simp only [SZ, Nat.reduceAdd]; exact rfl) ?_) | (refine aw_reg (by decide +kernel) (by simp only [SZ, Nat.reduceAdd]; exact rfl) ?_) | (refine aw_regS (by decide +kernel) (by simp only [SZ, Nat.reduceAdd]; exact rfl) ?_) | (refine arl_nil ?_) | (refine aw_skip ?_) | (refine aw_block ?_) | (refine aw_exit ?_) | (refine aw_ret ?_) | (refine arl_cons rfl rfl (by simp +decide only [aop, abuiltin, aeval, aintBin, bin_int, aload_bump, SS, reduceIte, reduceCtorEq, f0, f4]; exact rfl) (by first | rfl | with_reducible assumption) rfl ?_) | (refine arl_none rfl rfl (by simp +decide only [aop, abuiltin, aeval, aintBin, bin_int, aload_bump, SS, reduceIte, reduceCtorEq, f0, f4]; exact rfl) rfl rfl ?_) | (refine arl_off rfl rfl ?_))
      obtain rfl : k = xs.length := by omega
      rw [List.take_length] at hO
      refine ⟨.inr rfl, _, rfl, (by repeat (first | assumption | exact Keeps.refl _ _ | (refine Keeps.bumpR ?_ _) | (refine Keeps.put ?_ (by assumption) (by simp only [n_bump, n_put, n_touch, n_kill] at *; omega)))), hos, hO⟩
  · exact ⟨(by repeat (first | assumption | exact Keeps.refl _ _ | (refine Keeps.bumpR ?_ _) | (refine Keeps.put ?_ (by assumption) (by simp only [n_bump, n_put, n_touch, n_kill] at *; omega)))), 0, by omega, rfl, rfl, rfl, .inr ⟨_, _, rfl, get_put _ _, (by simp only [n_bump, n_put, n_touch, n_kill] at *; omega)⟩⟩
end Go.Proofs.Ytlindddionbpkaa.Ra
