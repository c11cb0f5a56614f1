/- The small helpers, further: Same, Cat, Wide, Intact, Piece. -/
import Derived.Test.YtlindddionbpkaaSa
namespace Go.Proofs.Ytlindddionbpkaa.Ra
open Go Go.RowKit
set_option linter.unusedVariables false
set_option linter.unusedSimpArgs false
set_option maxRecDepth 10000
theorem OwB.bump {st : St} {K : Nat → Prop} {v : AV} {xs : List Int} (h : OwB st K v xs) (k : Nat) : OwB (st.bump k) K v xs := h.keep (Keeps.bump (fun _ => False) _ _) (fun _ _ h => h)
theorem RdB.bump {st : St} {K : Nat → Prop} {v : AV} {xs : List Int} (h : RdB st K v xs) (k : Nat) : RdB (st.bump k) K v xs := h.keep (Keeps.bump (fun _ => False) _ _) (fun _ _ h => h)
theorem same_ok {st : St} (hw : WF st) {K K' : Nat → Prop} {v u : AV} {xs ys : List Int} (h : RdB st K v xs) (h' : RdB st K' u ys) (hl : xs.length ≤ 140737488355327) :
    ACalls Try.prog 14 [v, u] st (fun r s => Ext st s ∧ r = .pl (.bool (decide (xs = ys)))) := by
  have hvs := h.solid
  have hus := h'.solid
  refine acalls_of Try.func14 rfl (by kernel_rfl) (by simp [hvs, hus]) ?_
  repeat (first | (refine aw_seq ?_) | (refine aw_reg0 (by simp only [SZ, Nat.reduceAdd]; exact rfl) ?_) | (refine aw_reg (by decide +kernel) (by simp only [SZ, Nat.reduceAdd]; exact rfl) ?_) | (refine aw_regS (by decide +kernel) (by simp only [SZ, Nat.reduceAdd]; exact rfl) ?_) | (refine arl_nil ?_) | (refine aw_skip ?_) | (refine aw_block ?_) | (refine aw_exit ?_) | (refine aw_ret ?_) | (refine arl_cons rfl rfl (by simp +decide only [aop, abuiltin, aeval, aintBin, bin_int, aload_bump, SS, reduceIte, reduceCtorEq, h.len, h'.len]; exact rfl) (by first | rfl | with_reducible assumption) rfl ?_) | (refine arl_none rfl rfl (by simp +decide only [aop, abuiltin, aeval, aintBin, bin_int, aload_bump, SS, reduceIte, reduceCtorEq, h.len, h'.len]; exact rfl) rfl rfl ?_) | (refine arl_off rfl rfl ?_))
  (change AW _ _ _ _ _)
  refine aw_cond (by simp +decide only [aop, abuiltin, aeval, aintBin, bin_int, aload_bump, SS, reduceIte, reduceCtorEq]; exact rfl) (fun hc => ?_) (fun hc => ?_)
  · have hne : decide (xs = ys) = false := by
      simp only [bne_iff_ne, ne_eq, decide_eq_false_iff_not] at hc ⊢
      rintro rfl
      simp at hc
    repeat (first | (refine aw_seq ?_) | (refine aw_reg0 (by simp only [SZ, Nat.reduceAdd]; exact rfl) ?_) | (refine aw_reg (by decide +kernel) (by simp only [SZ, Nat.reduceAdd]; exact rfl) ?_) | (refine aw_regS (by decide +kernel) (by simp only [SZ, Nat.reduceAdd]; exact rfl) ?_) | (refine arl_nil ?_) | (refine aw_skip ?_) | (refine aw_block ?_) | (refine aw_exit ?_) | (refine aw_ret ?_) | (refine arl_cons rfl rfl (by simp +decide only [aop, abuiltin, aeval, aintBin, bin_int, aload_bump, SS, reduceIte, reduceCtorEq]; exact rfl) (by first | rfl | with_reducible assumption) rfl ?_) | (refine arl_none rfl rfl (by simp +decide only [aop, abuiltin, aeval, aintBin, bin_int, aload_bump, SS, reduceIte, reduceCtorEq]; exact rfl) rfl rfl ?_) | (refine arl_off rfl rfl ?_))
    exact ⟨.inr rfl, _, rfl, (by repeat (first | assumption | exact Keeps.refl _ _ | (refine Keeps.bumpR ?_ _) | (refine Keeps.put ?_ (by assumption) (by simp only [n_bump, n_put, n_touch, n_kill] at *; omega)))), by rw [hne]; rfl⟩
  · have hlen : xs.length = ys.length := by simp at hc; omega
    repeat (first | (refine aw_seq ?_) | (refine aw_reg0 (by simp only [SZ, Nat.reduceAdd]; exact rfl) ?_) | (refine aw_reg (by decide +kernel) (by simp only [SZ, Nat.reduceAdd]; exact rfl) ?_) | (refine aw_regS (by decide +kernel) (by simp only [SZ, Nat.reduceAdd]; exact rfl) ?_) | (refine arl_nil ?_) | (refine aw_skip ?_) | (refine aw_block ?_) | (refine aw_exit ?_) | (refine aw_ret ?_) | (refine arl_cons rfl rfl (by simp +decide only [aop, abuiltin, aeval, aintBin, bin_int, aload_bump, SS, reduceIte, reduceCtorEq]; exact rfl) (by first | rfl | with_reducible assumption) rfl ?_) | (refine arl_none rfl rfl (by simp +decide only [aop, abuiltin, aeval, aintBin, bin_int, aload_bump, SS, reduceIte, reduceCtorEq]; exact rfl) rfl rfl ?_) | (refine arl_off rfl rfl ?_))
    refine aw_rounds_wf (fun n fr s => Ext st s ∧ ∃ (k : Nat), k ≤ xs.length ∧ n = xs.length - k ∧ fr 0 = v ∧ fr 1 = u ∧ fr 5 = i64 k ∧ xs.take k = ys.take k) ?_ xs.length _ _ (by repeat (first | assumption | (refine WF.bump ?_ _) | (refine WF.put ?_ (by simp only [n_bump, n_put, n_touch, n_kill] at *; omega) (by simp only [n_bump, n_put, n_touch, n_kill] at *; omega)))) ?_
    · rintro n fr s hws ⟨hE, k, hk, rfl, f0, f1, f5, hT⟩
      have hR := h.keep hE (fun _ _ h => h)
      have hR' := h'.keep hE (fun _ _ h => h)
      have hEn := hE.n
      repeat (first | (refine aw_seq ?_) | (refine aw_reg0 (by simp only [SZ, Nat.reduceAdd]; exact rfl) ?_) | (refine aw_reg (by decide +kernel) (by simp only [SZ, Nat.reduceAdd]; exact rfl) ?_) | (refine aw_regS (by decide +kernel) (by simp only [SZ, Nat.reduceAdd]; exact rfl) ?_) | (refine arl_nil ?_) | (refine aw_skip ?_) | (refine aw_block ?_) | (refine aw_exit ?_) | (refine aw_ret ?_) | (refine arl_cons rfl rfl (by simp +decide only [aop, abuiltin, aeval, aintBin, bin_int, aload_bump, SS, reduceIte, reduceCtorEq, f0, f1, f5, hR.len]; exact rfl) (by first | rfl | with_reducible assumption) rfl ?_) | (refine arl_none rfl rfl (by simp +decide only [aop, abuiltin, aeval, aintBin, bin_int, aload_bump, SS, reduceIte, reduceCtorEq, f0, f1, f5, hR.len]; exact rfl) rfl rfl ?_) | (refine arl_off rfl rfl ?_))
      (change AW _ _ _ _ _)
      refine aw_cond (by simp +decide only [aop, abuiltin, aeval, aintBin, bin_int, aload_bump, SS, reduceIte, reduceCtorEq]; exact rfl) (fun hc2 => ?_) (fun hc2 => ?_)
      · simp only [decide_eq_true_eq] at hc2
        have hk2 : k < xs.length := by omega
        obtain ⟨p, hp1, hp2, hp3⟩ := hR.atN .i64 k hk2
        obtain ⟨p', hp1', hp2', hp3'⟩ := hR'.atN .i64 k (by omega)
        repeat (first | (refine aw_seq ?_) | (refine aw_reg0 (by simp only [SZ, Nat.reduceAdd]; exact rfl) ?_) | (refine aw_reg (by decide +kernel) (by simp only [SZ, Nat.reduceAdd]; exact rfl) ?_) | (refine aw_regS (by decide +kernel) (by simp only [SZ, Nat.reduceAdd]; exact rfl) ?_) | (refine arl_nil ?_) | (refine aw_skip ?_) | (refine aw_block ?_) | (refine aw_exit ?_) | (refine aw_ret ?_) | (refine arl_cons rfl rfl (by simp +decide only [aop, abuiltin, aeval, aintBin, bin_int, aload_bump, SS, reduceIte, reduceCtorEq, f0, f1, f5, hp1, hp3, hp1', hp3']; exact rfl) (by first | rfl | with_reducible assumption) rfl ?_) | (refine arl_none rfl rfl (by simp +decide only [aop, abuiltin, aeval, aintBin, bin_int, aload_bump, SS, reduceIte, reduceCtorEq, f0, f1, f5, hp1, hp3, hp1', hp3']; exact rfl) rfl rfl ?_) | (refine arl_off rfl rfl ?_))
        (change AW _ _ _ _ _)
        refine aw_cond (by simp +decide only [aop, abuiltin, aeval, aintBin, bin_int, aload_bump, SS, reduceIte, reduceCtorEq]; exact rfl) (fun hc3 => ?_) (fun hc3 => ?_)
        · have hne : decide (xs = ys) = false := by
            simp only [decide_eq_false_iff_not]
            rintro rfl
            simp at hc3
          repeat (first | (refine aw_seq ?_) | (refine aw_reg0 (by simp only [SZ, Nat.reduceAdd]; exact rfl) ?_) | (refine aw_reg (by decide +kernel) (by simp only [SZ, Nat.reduceAdd]; exact rfl) ?_) | (refine aw_regS (by decide +kernel) (by simp only [SZ, Nat.reduceAdd]; exact rfl) ?_) | (refine arl_nil ?_) | (refine aw_skip ?_) | (refine aw_block ?_) | (refine aw_exit ?_) | (refine aw_ret ?_) | (refine arl_cons rfl rfl (by simp +decide only [aop, abuiltin, aeval, aintBin, bin_int, aload_bump, SS, reduceIte, reduceCtorEq]; exact rfl) (by first | rfl | with_reducible assumption) rfl ?_) | (refine arl_none rfl rfl (by simp +decide only [aop, abuiltin, aeval, aintBin, bin_int, aload_bump, SS, reduceIte, reduceCtorEq]; exact rfl) rfl rfl ?_) | (refine arl_off rfl rfl ?_))
          exact ⟨.inr rfl, _, rfl, (by repeat (first | assumption | exact Keeps.refl _ _ | (refine Keeps.bumpR ?_ _) | (refine Keeps.put ?_ (by assumption) (by simp only [n_bump, n_put, n_touch, n_kill] at *; omega)))), by rw [hne]; rfl⟩
        · repeat (first | (refine aw_seq ?_) | (refine aw_reg0 (by simp only [SZ, Nat.reduceAdd]; exact rfl) ?_) | (refine aw_reg (by decide +kernel) (by simp only [SZ, Nat.reduceAdd]; exact rfl) ?_) | (refine aw_regS (by decide +kernel) (by simp only [SZ, Nat.reduceAdd]; exact rfl) ?_) | (refine arl_nil ?_) | (refine aw_skip ?_) | (refine aw_block ?_) | (refine aw_exit ?_) | (refine aw_ret ?_) | (refine arl_cons rfl rfl (by simp +decide only [aop, abuiltin, aeval, aintBin, bin_int, aload_bump, SS, reduceIte, reduceCtorEq, f0, f1, f5]; exact rfl) (by first | rfl | with_reducible assumption) rfl ?_) | (refine arl_none rfl rfl (by simp +decide only [aop, abuiltin, aeval, aintBin, bin_int, aload_bump, SS, reduceIte, reduceCtorEq, f0, f1, f5]; exact rfl) rfl rfl ?_) | (refine arl_off rfl rfl ?_))
          have hwk : IntKind.i64.wrap ((k : Int) + 1) = ((k + 1 : Nat) : Int) := by rw [wrap64_of (by omega) (by omega)]; omega
          refine ⟨xs.length - (k + 1), by omega, (by repeat (first | assumption | exact Keeps.refl _ _ | (refine Keeps.bumpR ?_ _) | (refine Keeps.put ?_ (by assumption) (by simp only [n_bump, n_put, n_touch, n_kill] at *; omega)))), k + 1, by omega, rfl, f0, f1, ?_, ?_⟩
          · rw [← hwk]; rfl
          · rw [List.take_succ_eq_append_getElem hk2, List.take_succ_eq_append_getElem (show k < ys.length by omega), hT]
            simp at hc3
            rw [hc3]
      · simp only [decide_eq_false_iff_not] at hc2
        repeat (first | (refine aw_seq ?_) | (refine aw_reg0 (by simp only [SZ, Nat.reduceAdd]; exact rfl) ?_) | (refine aw_reg (by decide +kernel) (by simp only [SZ, Nat.reduceAdd]; exact rfl) ?_) | (refine aw_regS (by decide +kernel) (by simp only [SZ, Nat.reduceAdd]; exact rfl) ?_) | (refine arl_nil ?_) | (refine aw_skip ?_) | (refine aw_block ?_) | (refine aw_exit ?_) | (refine aw_ret ?_) | (refine arl_cons rfl rfl (by simp +decide only [aop, abuiltin, aeval, aintBin, bin_int, aload_bump, SS, reduceIte, reduceCtorEq, f0, f1, f5]; exact rfl) (by first | rfl | with_reducible assumption) rfl ?_) | (refine arl_none rfl rfl (by simp +decide only [aop, abuiltin, aeval, aintBin, bin_int, aload_bump, SS, reduceIte, reduceCtorEq, f0, f1, f5]; exact rfl) rfl rfl ?_) | (refine arl_off rfl rfl ?_))
        obtain rfl : k = xs.length := by omega
        rw [List.take_length, hlen, List.take_length] at hT
        refine ⟨.inr rfl, _, rfl, (by repeat (first | assumption | exact Keeps.refl _ _ | (refine Keeps.bumpR ?_ _) | (refine Keeps.put ?_ (by assumption) (by simp only [n_bump, n_put, n_touch, n_kill] at *; omega)))), by rw [hT]; simp; rfl⟩
    · exact ⟨(by repeat (first | assumption | exact Keeps.refl _ _ | (refine Keeps.bumpR ?_ _) | (refine Keeps.put ?_ (by assumption) (by simp only [n_bump, n_put, n_touch, n_kill] at *; omega)))), 0, by omega, rfl, rfl, rfl, rfl, rfl⟩
/-- The marks behind. -/
def marks (n : Nat) : List Int := (List.range n).map fun i : Nat => ((i : Int) * 7 + 13) % 256
theorem marks_succ (n : Nat) : marks (n + 1) = marks n ++ [((n : Int) * 7 + 13) % 256] := by simp [marks, List.range_succ]
theorem marks_len (n : Nat) : (marks n).length = n := by simp [marks]
end Go.Proofs.Ytlindddionbpkaa.Ra
