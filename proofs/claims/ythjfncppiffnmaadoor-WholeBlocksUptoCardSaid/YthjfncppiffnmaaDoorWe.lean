/- press: chains: enter, best. -/
import Derived.Test.YthjfncppiffnmaaDoorWd
namespace Go.Proofs.YthjfncppiffnmaaDoor.Ra
open Go Go.RowKit Pn
set_option linter.unusedVariables false
set_option linter.unusedSimpArgs false
set_option maxRecDepth 10000
theorem wrap32 {x : Int} (h0 : 0 ≤ x) (h1 : x < 2147483648) : IntKind.i32.wrap x = x := by
  simp [IntKind.wrap, IntKind.bits, IntKind.signed]
  omega
theorem hsq_drop (b : List Int) (i : Nat) : hsq (b.drop i) 0 = hsq b i := by
  unfold hsq
  simp [List.getD_eq_getElem?_getD, List.getElem?_drop]
theorem cv32 (st : St) (id : Nat) (x : Int) : aconvert Tryd.prog st id 3 21 (.pl (.int .i64 x)) = some (.pl (.int .i32 (IntKind.i32.wrap x)), st) := conv_int Tryd.underlying3 Tryd.underlying21 st id .i64 x
theorem cv23 (st : St) (id : Nat) (x : Int) : aconvert Tryd.prog st id 21 3 (.pl (.int .i32 x)) = some (.pl (.int .i64 (IntKind.i64.wrap x)), st) := conv_int Tryd.underlying21 Tryd.underlying3 st id .i32 x
set_option maxHeartbeats 1000000 in
theorem enter_ok {st : St} (hw : WF st) {K : Nat → Prop} {v : AV} {b : List Int} {c g bk gb : Nat} (i : Nat) (hc : Chn st c g v b bk gb i) (h : RdB st K v b) (hl : b.length ≤ 1048576) (hi : i < b.length) :
    ACalls Tryd.prog 30 [.ptr c 0, i64 i] st (fun r s => Keeps (fun x => x = g ∨ x = gb) st s ∧ r.solid = true ∧ Chn s c g v b bk gb (i + 1)) := by
  have hvs := h.solid
  have hln := h.len
  have hw4 : IntKind.i64.wrap ((i : Int) + 4) = ((i + 4 : Nat) : Int) := by rw [wrap64_of (by omega) (by omega)]; omega
  have hcb := hc.b
  refine acalls_of Tryd.func30 rfl (by kernel_rfl) (by simp; exact ⟨rfl, rfl⟩) ?_
  by_cases h4 : i + 4 ≤ b.length
  · have d1 : decide (((i + 4 : Nat) : Int) > (b.length : Int)) = false := decide_eq_false (by omega)
    have hcbk := hc.bk
    obtain ⟨u, hcut, hus, hU⟩ := h.cuts (some (i64 i)) none i b.length (.inl rfl) (.inr ⟨rfl, rfl⟩) (by omega) (Nat.le_refl _)
    rw [List.take_of_length_le (by rw [List.length_drop]; omega)] at hU
    obtain ⟨k1, k2⟩ := hc.head .u32 (hsq b i) (hsq_lt b i)
    obtain ⟨w0, hw0⟩ : ∃ w0, lst b (hsq b) (hsq b i) i = w0 := ⟨_, rfl⟩
    have hbi : aindexAddr Tryd.prog 59 (.sl bk 0 b.length 1) (i64 i) = some (.ptr bk i) := by
      rw [idx_sl ucI szcI bk 0 _ 1 .i64 i (by omega) (by omega)]
      simp
    repeat (first | (refine aw_seq ?_) | (refine aw_reg0 (by simp only [SZ, Nat.reduceAdd]; exact rfl) ?_) | (refine aw_reg (by decide +kernel) (by simp only [SZ, Nat.reduceAdd]; exact rfl) ?_) | (refine aw_regS (by decide +kernel) (by simp only [SZ, Nat.reduceAdd]; exact rfl) ?_) | (refine arl_nil ?_) | (refine aw_skip ?_) | (refine aw_block ?_) | (refine aw_exit ?_) | (refine aw_ret ?_) | (refine arl_cons rfl rfl (by simp +decide only [aop, abuiltin, aeval, aintBin, bin_int, aload_bump, SS, reduceIte, reduceCtorEq, hw4, fc0, hcb, hln, d1, hcut]; exact rfl) (by first | rfl | with_reducible assumption) rfl ?_) | (refine arl_none rfl rfl (by simp +decide only [aop, abuiltin, aeval, aintBin, bin_int, aload_bump, SS, reduceIte, reduceCtorEq, hw4, fc0, hcb, hln, d1, hcut]; exact rfl) rfl rfl ?_) | (refine arl_off rfl rfl ?_) | (refine aw_condT (by simp +decide only [aop, abuiltin, aeval, aintBin, bin_int, aload_bump, SS, reduceIte, reduceCtorEq, hw4, fc0, hcb, hln, d1, hcut]; first | done | exact rfl) ?_) | (refine aw_condF (by simp +decide only [aop, abuiltin, aeval, aintBin, bin_int, aload_bump, SS, reduceIte, reduceCtorEq, hw4, fc0, hcb, hln, d1, hcut]; first | done | exact rfl) ?_))
    refine arl_call rfl rfl rfl rfl rfl rfl ((hash_ok (by repeat (first | assumption | (refine WF.bump ?_ _))) (hU.up (by repeat (first | exact Keeps.refl _ _ | (refine Keeps.bumpR ?_ _)))) (by rw [List.length_drop]; omega)).wf (by repeat (first | assumption | (refine WF.bump ?_ _) | (refine WF.put ?_ (by simp only [n_bump, n_put, n_touch, n_kill] at *; omega) (by simp only [n_bump, n_put, n_touch, n_kill] at *; omega)))) |>.mono ?_)
    rintro x s1 ⟨hw1, hn1, hE1, rfl⟩
    refine ⟨by first | rfl | with_reducible assumption, ?_⟩
    replace hE1 : Ext st s1 := Keeps.trans (by repeat (first | assumption | exact Keeps.refl _ _ | (refine Keeps.bumpR ?_ _) | (refine Keeps.put ?_ (by assumption) (by simp only [n_bump, n_put, n_touch, n_kill] at *; omega)))) hE1
    have hN1 := hE1.n
    obtain ⟨q0, hq0, hq0l⟩ : ∃ q0, hsq b i = q0 ∧ q0 < 4096 := ⟨_, rfl, hsq_lt b i⟩
    rw [hsq_drop, hq0]
    rw [hq0] at hw0
    have hc1 := hc.up hE1
    have hcb1 := hc1.b
    have hcbk1 := hc1.bk
    obtain ⟨k3, k4⟩ := hc1.head .u32 q0 hq0l
    rw [hw0] at k4
    obtain ⟨sl, hsl, hcbk2, hbi2, hsls⟩ : ∃ sl, AV.sl bk 0 b.length 1 = sl ∧ aload Tryd.prog s1 59 (.ptr c 4097) = some sl ∧ aindexAddr Tryd.prog 59 sl (i64 i) = some (.ptr bk i) ∧ sl.solid = true := ⟨_, rfl, hcbk1, hbi, rfl⟩
    clear hbi hcbk1
    obtain ⟨hne, hd, cs, a1, a2, a3, a4, a5, a6⟩ := hc1
    repeat (first | (refine aw_seq ?_) | (refine aw_reg0 (by simp only [SZ, Nat.reduceAdd]; exact rfl) ?_) | (refine aw_reg (by decide +kernel) (by simp only [SZ, Nat.reduceAdd]; exact rfl) ?_) | (refine aw_regS (by decide +kernel) (by simp only [SZ, Nat.reduceAdd]; exact rfl) ?_) | (refine arl_nil ?_) | (refine aw_skip ?_) | (refine aw_block ?_) | (refine aw_exit ?_) | (refine aw_ret ?_) | (refine arl_cons rfl rfl (by simp +decide only [aop, abuiltin, aeval, aintBin, bin_int, aload_bump, SS, reduceIte, reduceCtorEq, fc0, fc1, fc2, hcbk2, k3, k4]; exact rfl) (by first | rfl | with_reducible assumption) rfl ?_) | (refine arl_none rfl rfl (by simp +decide only [aop, abuiltin, aeval, aintBin, bin_int, aload_bump, SS, reduceIte, reduceCtorEq, fc0, fc1, fc2, hcbk2, k3, k4]; exact rfl) rfl rfl ?_) | (refine arl_off rfl rfl ?_) | (refine aw_condT (by simp +decide only [aop, abuiltin, aeval, aintBin, bin_int, aload_bump, SS, reduceIte, reduceCtorEq, fc0, fc1, fc2, hcbk2, k3, k4]; first | done | exact rfl) ?_) | (refine aw_condF (by simp +decide only [aop, abuiltin, aeval, aintBin, bin_int, aload_bump, SS, reduceIte, reduceCtorEq, fc0, fc1, fc2, hcbk2, k3, k4]; first | done | exact rfl) ?_))
    refine arl_cons (y := .ptr bk i) (st1 := s1.bump 13) rfl rfl (by show (aindexAddr Tryd.prog 59 sl (i64 i)).map _ = _; rw [hbi2]; rfl) rfl rfl ?_
    refine arl_storeX (g := gb) (off := i) (y := i32 w0) rfl rfl rfl rfl rfl a4 szcI rfl rfl rfl (by omega) ?_
    intro s2 hn2 hwf2 hK2 hg2 hd2
    have hw2 := hwf2 (by repeat (first | assumption | (refine WF.bump ?_ _)))
    have a1' := hK2.get c _ a1 (fun e => hne e)
    have hwk := wrap_succ (k := i) (by omega)
    have hw32 : IntKind.i32.wrap ((i + 1 : Nat) : Int) = ((i + 1 : Nat) : Int) := wrap32 (by omega) (by omega)
    repeat (first | (refine aw_seq ?_) | (refine aw_reg0 (by simp only [SZ, Nat.reduceAdd]; exact rfl) ?_) | (refine aw_reg (by decide +kernel) (by simp only [SZ, Nat.reduceAdd]; exact rfl) ?_) | (refine aw_regS (by decide +kernel) (by simp only [SZ, Nat.reduceAdd]; exact rfl) ?_) | (refine arl_nil ?_) | (refine aw_skip ?_) | (refine aw_block ?_) | (refine aw_exit ?_) | (refine aw_ret ?_) | (refine arl_cons rfl rfl (by simp +decide only [aop, abuiltin, aeval, aintBin, bin_int, aload_bump, SS, reduceIte, reduceCtorEq, fc0, fc1, k3, hwk, cv32, hw32]; exact rfl) (by first | rfl | with_reducible assumption) rfl ?_) | (refine arl_none rfl rfl (by simp +decide only [aop, abuiltin, aeval, aintBin, bin_int, aload_bump, SS, reduceIte, reduceCtorEq, fc0, fc1, k3, hwk, cv32, hw32]; exact rfl) rfl rfl ?_) | (refine arl_off rfl rfl ?_) | (refine aw_condT (by simp +decide only [aop, abuiltin, aeval, aintBin, bin_int, aload_bump, SS, reduceIte, reduceCtorEq, fc0, fc1, k3, hwk, cv32, hw32]; first | done | exact rfl) ?_) | (refine aw_condF (by simp +decide only [aop, abuiltin, aeval, aintBin, bin_int, aload_bump, SS, reduceIte, reduceCtorEq, fc0, fc1, k3, hwk, cv32, hw32]; first | done | exact rfl) ?_))
    refine arl_storeX (g := g) (off := 1 + q0) (y := i32 ((i + 1 : Nat) : Int)) rfl rfl rfl rfl rfl a1' szcI rfl rfl rfl (by simp; omega) ?_
    intro s3 hn3 hwf3 hK3 hg3 hd3
    repeat (first | (refine aw_seq ?_) | (refine aw_reg0 (by simp only [SZ, Nat.reduceAdd]; exact rfl) ?_) | (refine aw_reg (by decide +kernel) (by simp only [SZ, Nat.reduceAdd]; exact rfl) ?_) | (refine aw_regS (by decide +kernel) (by simp only [SZ, Nat.reduceAdd]; exact rfl) ?_) | (refine arl_nil ?_) | (refine aw_skip ?_) | (refine aw_block ?_) | (refine aw_exit ?_) | (refine aw_ret ?_) | (refine arl_cons rfl rfl (by simp +decide only [aop, abuiltin, aeval, aintBin, bin_int, aload_bump, SS, reduceIte, reduceCtorEq]; exact rfl) (by first | rfl | with_reducible assumption) rfl ?_) | (refine arl_none rfl rfl (by simp +decide only [aop, abuiltin, aeval, aintBin, bin_int, aload_bump, SS, reduceIte, reduceCtorEq]; exact rfl) rfl rfl ?_) | (refine arl_off rfl rfl ?_) | (refine aw_condT (by simp +decide only [aop, abuiltin, aeval, aintBin, bin_int, aload_bump, SS, reduceIte, reduceCtorEq]; first | done | exact rfl) ?_) | (refine aw_condF (by simp +decide only [aop, abuiltin, aeval, aintBin, bin_int, aload_bump, SS, reduceIte, reduceCtorEq]; first | done | exact rfl) ?_))
    have hkk : Keeps (fun x => x = g ∨ x = gb) st s3 := (Keeps.mono (hE1.trans (by repeat (first | exact Keeps.refl _ _ | (refine Keeps.bumpR ?_ _)))) (fun _ h => h.elim)).trans ((hK2.mono (fun _ h => .inr h)).trans ((Keeps.mono (G := fun _ => False) (show Ext s2 _ from (by repeat (first | exact Keeps.refl _ _ | (refine Keeps.bumpR ?_ _)))) (fun _ h => h.elim)).trans (hK3.mono (fun _ h => .inl h))))
    refine ⟨.inl rfl, _, rfl, hkk, rfl, hne, hd.set q0 (i32 ((i + 1 : Nat) : Int)), cs.set i (i32 w0), ?_, by rw [List.length_set]; exact a2, ?_, ?_, by rw [List.length_set]; exact a5, ?_⟩
    · have e : (v :: (hd ++ [AV.sl bk 0 b.length 1])).set (1 + q0) (i32 ((i + 1 : Nat) : Int)) = v :: (hd.set q0 (i32 ((i + 1 : Nat) : Int)) ++ [AV.sl bk 0 b.length 1]) := by
        rw [Nat.add_comm 1, List.set_cons_succ, List.set_append_left _ _ (by omega)]
      rw [← e]
      exact hg3
    · intro q hq
      rw [List.getElem?_set, lst]
      by_cases e : q0 = q
      · rw [if_pos e, if_pos (by omega), if_pos ⟨h4, hq0.trans e⟩]
      · rw [if_neg e, if_neg (fun h => e (hq0.symm.trans h.2))]
        exact a3 q hq
    · exact hK3.get bk _ hg2 (fun e => hne e.symm)
    · intro q hq hq4
      rw [List.getElem?_set]
      by_cases e : i = q
      · subst e
        rw [if_pos rfl, if_pos (by omega), hq0, hw0]
      · rw [if_neg e]
        exact a6 q (by omega) hq4
  · have d1 : decide (((i + 4 : Nat) : Int) > (b.length : Int)) = true := decide_eq_true (by omega)
    repeat (first | (refine aw_seq ?_) | (refine aw_reg0 (by simp only [SZ, Nat.reduceAdd]; exact rfl) ?_) | (refine aw_reg (by decide +kernel) (by simp only [SZ, Nat.reduceAdd]; exact rfl) ?_) | (refine aw_regS (by decide +kernel) (by simp only [SZ, Nat.reduceAdd]; exact rfl) ?_) | (refine arl_nil ?_) | (refine aw_skip ?_) | (refine aw_block ?_) | (refine aw_exit ?_) | (refine aw_ret ?_) | (refine arl_cons rfl rfl (by simp +decide only [aop, abuiltin, aeval, aintBin, bin_int, aload_bump, SS, reduceIte, reduceCtorEq, hw4, fc0, hcb, hln, d1]; exact rfl) (by first | rfl | with_reducible assumption) rfl ?_) | (refine arl_none rfl rfl (by simp +decide only [aop, abuiltin, aeval, aintBin, bin_int, aload_bump, SS, reduceIte, reduceCtorEq, hw4, fc0, hcb, hln, d1]; exact rfl) rfl rfl ?_) | (refine arl_off rfl rfl ?_) | (refine aw_condT (by simp +decide only [aop, abuiltin, aeval, aintBin, bin_int, aload_bump, SS, reduceIte, reduceCtorEq, hw4, fc0, hcb, hln, d1]; first | done | exact rfl) ?_) | (refine aw_condF (by simp +decide only [aop, abuiltin, aeval, aintBin, bin_int, aload_bump, SS, reduceIte, reduceCtorEq, hw4, fc0, hcb, hln, d1]; first | done | exact rfl) ?_))
    refine ⟨.inr rfl, _, rfl, Keeps.mono (G := fun _ => False) (by repeat (first | exact Keeps.refl _ _ | (refine Keeps.bumpR ?_ _))) (fun _ h => h.elim), rfl, ?_⟩
    have hc' : Chn st c g v b bk gb (i + 1) := by
      obtain ⟨hne, hd, cs, a1, a2, a3, a4, a5, a6⟩ := hc
      refine ⟨hne, hd, cs, a1, a2, fun q hq => ?_, a4, a5, fun q hq hq4 => a6 q (by omega) hq4⟩
      rw [lst, if_neg (fun h => h4 h.1)]
      exact a3 q hq
    exact hc'.up (by repeat (first | exact Keeps.refl _ _ | (refine Keeps.bumpR ?_ _)))
set_option maxHeartbeats 1000000 in
theorem cbest_ok {st : St} (hw : WF st) {K : Nat → Prop} {v : AV} {b : List Int} {c g bk gb : Nat} (i : Nat) (depth : Nat) (hdp : depth ≤ 32) (hc : Chn st c g v b bk gb i) (h : RdB st K v b) (hl : b.length ≤ 1048576) (hi : i ≤ b.length) :
    ACalls Tryd.prog 29 [.ptr c 0, i64 i, i64 depth] st (fun r s => Ext st s ∧ r = .tup [i64 (bst b i i depth (0, 0)).1, i64 (bst b i i depth (0, 0)).2]) := by
  have hvs := h.solid
  have hln := h.len
  have hw4 : IntKind.i64.wrap ((i : Int) + 4) = ((i + 4 : Nat) : Int) := by rw [wrap64_of (by omega) (by omega)]; omega
  have hcb := hc.b
  refine acalls_of Tryd.func29 rfl (by kernel_rfl) (by simp; exact ⟨rfl, rfl, rfl⟩) ?_
  by_cases h4 : i + 4 ≤ b.length
  · have d1 : decide (((i + 4 : Nat) : Int) > (b.length : Int)) = false := decide_eq_false (by omega)
    obtain ⟨u, hcut, hus, hU⟩ := h.cuts (some (i64 i)) none i b.length (.inl rfl) (.inr ⟨rfl, rfl⟩) (by omega) (Nat.le_refl _)
    rw [List.take_of_length_le (by rw [List.length_drop]; omega)] at hU
    obtain ⟨k1, k2⟩ := hc.head .u32 (hsq b i) (hsq_lt b i)
    have hle := lst_le b (hsq b) (hsq b i) i
    obtain ⟨w0, hw0⟩ : ∃ w0, lst b (hsq b) (hsq b i) i = w0 := ⟨_, rfl⟩
    rw [hw0] at k2 hle
    have hwl : IntKind.i64.wrap (w0 : Int) = (w0 : Int) := wrap64_of (by omega) (by omega)
    have hwl1 : IntKind.i64.wrap ((w0 : Int) - 1) = (w0 : Int) - 1 := wrap64_of (by omega) (by omega)
    repeat (first | (refine aw_seq ?_) | (refine aw_reg0 (by simp only [SZ, Nat.reduceAdd]; exact rfl) ?_) | (refine aw_reg (by decide +kernel) (by simp only [SZ, Nat.reduceAdd]; exact rfl) ?_) | (refine aw_regS (by decide +kernel) (by simp only [SZ, Nat.reduceAdd]; exact rfl) ?_) | (refine arl_nil ?_) | (refine aw_skip ?_) | (refine aw_block ?_) | (refine aw_exit ?_) | (refine aw_ret ?_) | (refine arl_cons rfl rfl (by simp +decide only [aop, abuiltin, aeval, aintBin, bin_int, aload_bump, SS, reduceIte, reduceCtorEq, hw4, fc0, hcb, hln, d1, hcut]; exact rfl) (by first | rfl | with_reducible assumption) rfl ?_) | (refine arl_none rfl rfl (by simp +decide only [aop, abuiltin, aeval, aintBin, bin_int, aload_bump, SS, reduceIte, reduceCtorEq, hw4, fc0, hcb, hln, d1, hcut]; exact rfl) rfl rfl ?_) | (refine arl_off rfl rfl ?_) | (refine aw_condT (by simp +decide only [aop, abuiltin, aeval, aintBin, bin_int, aload_bump, SS, reduceIte, reduceCtorEq, hw4, fc0, hcb, hln, d1, hcut]; first | done | exact rfl) ?_) | (refine aw_condF (by simp +decide only [aop, abuiltin, aeval, aintBin, bin_int, aload_bump, SS, reduceIte, reduceCtorEq, hw4, fc0, hcb, hln, d1, hcut]; first | done | exact rfl) ?_))
    refine arl_callN (by decide +kernel) rfl rfl rfl rfl rfl rfl ((hash_ok (by repeat (first | assumption | (refine WF.bump ?_ _))) (hU.up (by repeat (first | exact Keeps.refl _ _ | (refine Keeps.bumpR ?_ _)))) (by rw [List.length_drop]; omega)).wf (by repeat (first | assumption | (refine WF.bump ?_ _) | (refine WF.put ?_ (by simp only [n_bump, n_put, n_touch, n_kill] at *; omega) (by simp only [n_bump, n_put, n_touch, n_kill] at *; omega)))) |>.mono ?_)
    rintro x s1 ⟨hw1, hn1, hE1, rfl⟩
    refine ⟨rfl, ?_⟩
    replace hE1 : Ext st s1 := Keeps.trans (by repeat (first | assumption | exact Keeps.refl _ _ | (refine Keeps.bumpR ?_ _) | (refine Keeps.put ?_ (by assumption) (by simp only [n_bump, n_put, n_touch, n_kill] at *; omega)))) hE1
    have hN1 := hE1.n
    rw [hsq_drop]
    have hc1 := hc.up hE1
    obtain ⟨k3, k4⟩ := hc1.head .u32 (hsq b i) (hsq_lt b i)
    rw [hw0] at k4
    repeat (first | (refine aw_seq ?_) | (refine aw_reg0 (by simp only [SZ, Nat.reduceAdd]; exact rfl) ?_) | (refine aw_reg (by decide +kernel) (by simp only [SZ, Nat.reduceAdd]; exact rfl) ?_) | (refine aw_regS (by decide +kernel) (by simp only [SZ, Nat.reduceAdd]; exact rfl) ?_) | (refine arl_nil ?_) | (refine aw_skip ?_) | (refine aw_block ?_) | (refine aw_exit ?_) | (refine aw_ret ?_) | (refine arl_cons rfl rfl (by simp +decide only [aop, abuiltin, aeval, aintBin, bin_int, aload_bump, SS, reduceIte, reduceCtorEq, fc0, fc1, k3, k4, cv23, hwl, hwl1]; exact rfl) (by first | rfl | with_reducible assumption) rfl ?_) | (refine arl_none rfl rfl (by simp +decide only [aop, abuiltin, aeval, aintBin, bin_int, aload_bump, SS, reduceIte, reduceCtorEq, fc0, fc1, k3, k4, cv23, hwl, hwl1]; exact rfl) rfl rfl ?_) | (refine arl_off rfl rfl ?_) | (refine aw_condT (by simp +decide only [aop, abuiltin, aeval, aintBin, bin_int, aload_bump, SS, reduceIte, reduceCtorEq, fc0, fc1, k3, k4, cv23, hwl, hwl1]; first | done | exact rfl) ?_) | (refine aw_condF (by simp +decide only [aop, abuiltin, aeval, aintBin, bin_int, aload_bump, SS, reduceIte, reduceCtorEq, fc0, fc1, k3, k4, cv23, hwl, hwl1]; first | done | exact rfl) ?_))
    refine aw_rounds_wf (fun m fr s => Ext st s ∧ ∃ (q d : Nat) (r : Nat × Nat), q ≤ i ∧ m = q ∧ d ≤ depth ∧ (q = 0 ∨ (q + 3 ≤ b.length ∧ hsq b (q - 1) = hsq b i)) ∧ fr 0 = .ptr c 0 ∧ fr 1 = i64 i ∧ fr 2 = i64 d ∧ fr 8 = i64 ((q : Int) - 1) ∧ fr 6 = i64 r.1 ∧ fr 7 = i64 r.2 ∧ bst b i i depth (0, 0) = bst b i q d r) ?_ w0 _ _ (by repeat (first | assumption | (refine WF.bump ?_ _))) ?_
    · rintro q fr sx hws ⟨hE, q', d, r, hq, rfl, hdd, hH, f0, f1, f2, f8, f6, f7, hb⟩
      have hEn := hE.n
      cases q with
      | zero =>
        have d1 : decide (((0 : Nat) : Int) - 1 ≥ 0) = false := decide_eq_false (by omega)
        rw [bst] at hb
        repeat (first | (refine aw_seq ?_) | (refine aw_reg0 (by simp only [SZ, Nat.reduceAdd]; exact rfl) ?_) | (refine aw_reg (by decide +kernel) (by simp only [SZ, Nat.reduceAdd]; exact rfl) ?_) | (refine aw_regS (by decide +kernel) (by simp only [SZ, Nat.reduceAdd]; exact rfl) ?_) | (refine arl_nil ?_) | (refine aw_skip ?_) | (refine aw_block ?_) | (refine aw_exit ?_) | (refine aw_ret ?_) | (refine arl_cons rfl rfl (by simp +decide only [aop, abuiltin, aeval, aintBin, bin_int, aload_bump, SS, reduceIte, reduceCtorEq, f8, d1, f6, f7]; exact rfl) (by first | rfl | with_reducible assumption) rfl ?_) | (refine arl_none rfl rfl (by simp +decide only [aop, abuiltin, aeval, aintBin, bin_int, aload_bump, SS, reduceIte, reduceCtorEq, f8, d1, f6, f7]; exact rfl) rfl rfl ?_) | (refine arl_off rfl rfl ?_) | (refine aw_condT (by simp +decide only [aop, abuiltin, aeval, aintBin, bin_int, aload_bump, SS, reduceIte, reduceCtorEq, f8, d1, f6, f7]; first | done | exact rfl) ?_) | (refine aw_condF (by simp +decide only [aop, abuiltin, aeval, aintBin, bin_int, aload_bump, SS, reduceIte, reduceCtorEq, f8, d1, f6, f7]; first | done | exact rfl) ?_))
        exact ⟨.inr rfl, _, rfl, hE.trans (by repeat (first | exact Keeps.refl _ _ | (refine Keeps.bumpR ?_ _))), by rw [hb]; rfl⟩
      | succ p =>
        rw [show (((p + 1 : Nat) : Int) - 1) = (p : Int) by omega] at f8
        have hHp : hsq b p = hsq b i := by
          rcases hH with h | h
          · omega
          · exact h.2
        have hp4 : p + 4 ≤ b.length := by omega
        have d1 : decide ((p : Int) ≥ 0) = true := decide_eq_true (by omega)
        have hwip : IntKind.i64.wrap ((i : Int) - (p : Int)) = ((i - p : Nat) : Int) := by rw [wrap64_of (by omega) (by omega)]; omega
        have hcx := hc.up hE
        have hcbk := hcx.bk
        obtain ⟨m1, m2⟩ := hcx.back .i64 p (by omega) hp4
        rw [hHp] at m2
        have hle' := lst_le b (hsq b) (hsq b i) p
        have hch : ∀ d r, bst b i p d r = bst b i (lst b (hsq b) (hsq b i) p) d r := fun d r => bst_chain b (hsq b) i p d r (by omega) h4 (fun q _ h => hsq_eq b h)
        have hat : lst b (hsq b) (hsq b i) p = 0 ∨ (lst b (hsq b) (hsq b i) p + 3 ≤ b.length ∧ hsq b (lst b (hsq b) (hsq b i) p - 1) = hsq b i) := by
          cases e : lst b (hsq b) (hsq b i) p with
          | zero => exact .inl rfl
          | succ p' => have := lst_at b (hsq b) (hsq b i) p p' e; exact .inr ⟨by omega, this.2.2⟩
        generalize lst b (hsq b) (hsq b i) p = w1 at *
        have hwl : IntKind.i64.wrap (w1 : Int) = (w1 : Int) := wrap64_of (by omega) (by omega)
        have hwl1 : IntKind.i64.wrap ((w1 : Int) - 1) = (w1 : Int) - 1 := wrap64_of (by omega) (by omega)
        rw [bst] at hb
        by_cases h1 : i ≤ p + 4096
        · have d2 : decide (((i - p : Nat) : Int) ≤ 4096) = true := decide_eq_true (by omega)
          by_cases h2 : 0 < d
          · have d3 : decide ((d : Int) > 0) = true := decide_eq_true (by omega)
            have hwd : IntKind.i64.wrap ((d : Int) - 1) = ((d - 1 : Nat) : Int) := by rw [wrap64_of (by omega) (by omega)]; omega
            rw [if_pos ⟨h1, by omega⟩] at hb
            repeat (first | (refine aw_seq ?_) | (refine aw_reg0 (by simp only [SZ, Nat.reduceAdd]; exact rfl) ?_) | (refine aw_reg (by decide +kernel) (by simp only [SZ, Nat.reduceAdd]; exact rfl) ?_) | (refine aw_regS (by decide +kernel) (by simp only [SZ, Nat.reduceAdd]; exact rfl) ?_) | (refine arl_nil ?_) | (refine aw_skip ?_) | (refine aw_block ?_) | (refine aw_exit ?_) | (refine aw_ret ?_) | (refine arl_cons rfl rfl (by simp +decide only [aop, abuiltin, aeval, aintBin, bin_int, aload_bump, SS, reduceIte, reduceCtorEq, f8, d1, f1, hwip, d2, f2, d3, f0]; exact rfl) (by first | rfl | with_reducible assumption) rfl ?_) | (refine arl_none rfl rfl (by simp +decide only [aop, abuiltin, aeval, aintBin, bin_int, aload_bump, SS, reduceIte, reduceCtorEq, f8, d1, f1, hwip, d2, f2, d3, f0]; exact rfl) rfl rfl ?_) | (refine arl_off rfl rfl ?_) | (refine aw_condT (by simp +decide only [aop, abuiltin, aeval, aintBin, bin_int, aload_bump, SS, reduceIte, reduceCtorEq, f8, d1, f1, hwip, d2, f2, d3, f0]; first | done | exact rfl) ?_) | (refine aw_condF (by simp +decide only [aop, abuiltin, aeval, aintBin, bin_int, aload_bump, SS, reduceIte, reduceCtorEq, f8, d1, f1, hwip, d2, f2, d3, f0]; first | done | exact rfl) ?_))
            refine arl_call rfl rfl rfl rfl rfl rfl ((clength_ok (by repeat (first | assumption | (refine WF.bump ?_ _))) p i (hcx.up (by repeat (first | exact Keeps.refl _ _ | (refine Keeps.bumpR ?_ _)))) ((h.up hE).up (by repeat (first | exact Keeps.refl _ _ | (refine Keeps.bumpR ?_ _)))) (by omega) (by omega) hi).wf (by repeat (first | assumption | (refine WF.bump ?_ _) | (refine WF.put ?_ (by simp only [n_bump, n_put, n_touch, n_kill] at *; omega) (by simp only [n_bump, n_put, n_touch, n_kill] at *; omega)))) |>.mono ?_)
            rintro y s2 ⟨hw2, hn2, hE2, rfl⟩
            refine ⟨by first | rfl | with_reducible assumption, ?_⟩
            replace hE2 : Ext sx s2 := Keeps.trans (by repeat (first | assumption | exact Keeps.refl _ _ | (refine Keeps.bumpR ?_ _) | (refine Keeps.put ?_ (by assumption) (by simp only [n_bump, n_put, n_touch, n_kill] at *; omega)))) hE2
            have hN2 := hE2.n
            have hc2 := hcx.up hE2
            have hcbk2 := hc2.bk
            have m3 := aload_up hE2 m2
            by_cases h5 : 4 ≤ lcp b 131 p i
            · have d4 : decide (((lcp b 131 p i : Nat) : Int) < 4) = false := decide_eq_false (by omega)
              rw [if_pos h5] at hb
              by_cases h6 : r.2 < lcp b 131 p i
              · have d5 : decide (((lcp b 131 p i : Nat) : Int) > (r.2 : Int)) = true := decide_eq_true (by omega)
                rw [if_pos h6] at hb
                repeat (first | (refine aw_seq ?_) | (refine aw_reg0 (by simp only [SZ, Nat.reduceAdd]; exact rfl) ?_) | (refine aw_reg (by decide +kernel) (by simp only [SZ, Nat.reduceAdd]; exact rfl) ?_) | (refine aw_regS (by decide +kernel) (by simp only [SZ, Nat.reduceAdd]; exact rfl) ?_) | (refine arl_nil ?_) | (refine aw_skip ?_) | (refine aw_block ?_) | (refine aw_exit ?_) | (refine aw_ret ?_) | (refine arl_cons rfl rfl (by simp +decide only [aop, abuiltin, aeval, aintBin, bin_int, aload_bump, SS, reduceIte, reduceCtorEq, d4, f2, hwd, f7, d5, f1, f8, hwip, f0, fc2, hcbk2, m1, m3, cv23, hwl, hwl1]; exact rfl) (by first | rfl | with_reducible assumption) rfl ?_) | (refine arl_none rfl rfl (by simp +decide only [aop, abuiltin, aeval, aintBin, bin_int, aload_bump, SS, reduceIte, reduceCtorEq, d4, f2, hwd, f7, d5, f1, f8, hwip, f0, fc2, hcbk2, m1, m3, cv23, hwl, hwl1]; exact rfl) rfl rfl ?_) | (refine arl_off rfl rfl ?_) | (refine aw_condT (by simp +decide only [aop, abuiltin, aeval, aintBin, bin_int, aload_bump, SS, reduceIte, reduceCtorEq, d4, f2, hwd, f7, d5, f1, f8, hwip, f0, fc2, hcbk2, m1, m3, cv23, hwl, hwl1]; first | done | exact rfl) ?_) | (refine aw_condF (by simp +decide only [aop, abuiltin, aeval, aintBin, bin_int, aload_bump, SS, reduceIte, reduceCtorEq, d4, f2, hwd, f7, d5, f1, f8, hwip, f0, fc2, hcbk2, m1, m3, cv23, hwl, hwl1]; first | done | exact rfl) ?_))
                refine ⟨w1, by omega, (hE.trans hE2).trans (by repeat (first | exact Keeps.refl _ _ | (refine Keeps.bumpR ?_ _))), w1, d - 1, (i - p, lcp b 131 p i), by omega, rfl, by omega, hat, f0, f1, rfl, rfl, rfl, rfl, ?_⟩
                rw [hb, hch, show ((d - 1 : Nat) : Int) = (d : Int) - 1 by omega]
              · have d5 : decide (((lcp b 131 p i : Nat) : Int) > (r.2 : Int)) = false := decide_eq_false (by omega)
                rw [if_neg h6] at hb
                repeat (first | (refine aw_seq ?_) | (refine aw_reg0 (by simp only [SZ, Nat.reduceAdd]; exact rfl) ?_) | (refine aw_reg (by decide +kernel) (by simp only [SZ, Nat.reduceAdd]; exact rfl) ?_) | (refine aw_regS (by decide +kernel) (by simp only [SZ, Nat.reduceAdd]; exact rfl) ?_) | (refine arl_nil ?_) | (refine aw_skip ?_) | (refine aw_block ?_) | (refine aw_exit ?_) | (refine aw_ret ?_) | (refine arl_cons rfl rfl (by simp +decide only [aop, abuiltin, aeval, aintBin, bin_int, aload_bump, SS, reduceIte, reduceCtorEq, d4, f2, hwd, f7, d5, f1, f8, f0, fc2, hcbk2, m1, m3, cv23, hwl, hwl1]; exact rfl) (by first | rfl | with_reducible assumption) rfl ?_) | (refine arl_none rfl rfl (by simp +decide only [aop, abuiltin, aeval, aintBin, bin_int, aload_bump, SS, reduceIte, reduceCtorEq, d4, f2, hwd, f7, d5, f1, f8, f0, fc2, hcbk2, m1, m3, cv23, hwl, hwl1]; exact rfl) rfl rfl ?_) | (refine arl_off rfl rfl ?_) | (refine aw_condT (by simp +decide only [aop, abuiltin, aeval, aintBin, bin_int, aload_bump, SS, reduceIte, reduceCtorEq, d4, f2, hwd, f7, d5, f1, f8, f0, fc2, hcbk2, m1, m3, cv23, hwl, hwl1]; first | done | exact rfl) ?_) | (refine aw_condF (by simp +decide only [aop, abuiltin, aeval, aintBin, bin_int, aload_bump, SS, reduceIte, reduceCtorEq, d4, f2, hwd, f7, d5, f1, f8, f0, fc2, hcbk2, m1, m3, cv23, hwl, hwl1]; first | done | exact rfl) ?_))
                refine ⟨w1, by omega, (hE.trans hE2).trans (by repeat (first | exact Keeps.refl _ _ | (refine Keeps.bumpR ?_ _))), w1, d - 1, r, by omega, rfl, by omega, hat, f0, f1, rfl, rfl, f6, f7, ?_⟩
                rw [hb, hch, show ((d - 1 : Nat) : Int) = (d : Int) - 1 by omega]
            · have d4 : decide (((lcp b 131 p i : Nat) : Int) < 4) = true := decide_eq_true (by omega)
              rw [if_neg h5] at hb
              repeat (first | (refine aw_seq ?_) | (refine aw_reg0 (by simp only [SZ, Nat.reduceAdd]; exact rfl) ?_) | (refine aw_reg (by decide +kernel) (by simp only [SZ, Nat.reduceAdd]; exact rfl) ?_) | (refine aw_regS (by decide +kernel) (by simp only [SZ, Nat.reduceAdd]; exact rfl) ?_) | (refine arl_nil ?_) | (refine aw_skip ?_) | (refine aw_block ?_) | (refine aw_exit ?_) | (refine aw_ret ?_) | (refine arl_cons rfl rfl (by simp +decide only [aop, abuiltin, aeval, aintBin, bin_int, aload_bump, SS, reduceIte, reduceCtorEq, d4, f8, f0, fc2, hcbk2, m1, m3, cv23, hwl, hwl1]; exact rfl) (by first | rfl | with_reducible assumption) rfl ?_) | (refine arl_none rfl rfl (by simp +decide only [aop, abuiltin, aeval, aintBin, bin_int, aload_bump, SS, reduceIte, reduceCtorEq, d4, f8, f0, fc2, hcbk2, m1, m3, cv23, hwl, hwl1]; exact rfl) rfl rfl ?_) | (refine arl_off rfl rfl ?_) | (refine aw_condT (by simp +decide only [aop, abuiltin, aeval, aintBin, bin_int, aload_bump, SS, reduceIte, reduceCtorEq, d4, f8, f0, fc2, hcbk2, m1, m3, cv23, hwl, hwl1]; first | done | exact rfl) ?_) | (refine aw_condF (by simp +decide only [aop, abuiltin, aeval, aintBin, bin_int, aload_bump, SS, reduceIte, reduceCtorEq, d4, f8, f0, fc2, hcbk2, m1, m3, cv23, hwl, hwl1]; first | done | exact rfl) ?_))
              refine ⟨w1, by omega, (hE.trans hE2).trans (by repeat (first | exact Keeps.refl _ _ | (refine Keeps.bumpR ?_ _))), w1, d, r, by omega, rfl, by omega, hat, f0, f1, f2, rfl, f6, f7, ?_⟩
              rw [hb, hch]
          · have d3 : decide ((d : Int) > 0) = false := decide_eq_false (by omega)
            rw [if_neg (by omega)] at hb
            repeat (first | (refine aw_seq ?_) | (refine aw_reg0 (by simp only [SZ, Nat.reduceAdd]; exact rfl) ?_) | (refine aw_reg (by decide +kernel) (by simp only [SZ, Nat.reduceAdd]; exact rfl) ?_) | (refine aw_regS (by decide +kernel) (by simp only [SZ, Nat.reduceAdd]; exact rfl) ?_) | (refine arl_nil ?_) | (refine aw_skip ?_) | (refine aw_block ?_) | (refine aw_exit ?_) | (refine aw_ret ?_) | (refine arl_cons rfl rfl (by simp +decide only [aop, abuiltin, aeval, aintBin, bin_int, aload_bump, SS, reduceIte, reduceCtorEq, f8, d1, f1, hwip, d2, f2, d3, f6, f7]; exact rfl) (by first | rfl | with_reducible assumption) rfl ?_) | (refine arl_none rfl rfl (by simp +decide only [aop, abuiltin, aeval, aintBin, bin_int, aload_bump, SS, reduceIte, reduceCtorEq, f8, d1, f1, hwip, d2, f2, d3, f6, f7]; exact rfl) rfl rfl ?_) | (refine arl_off rfl rfl ?_) | (refine aw_condT (by simp +decide only [aop, abuiltin, aeval, aintBin, bin_int, aload_bump, SS, reduceIte, reduceCtorEq, f8, d1, f1, hwip, d2, f2, d3, f6, f7]; first | done | exact rfl) ?_) | (refine aw_condF (by simp +decide only [aop, abuiltin, aeval, aintBin, bin_int, aload_bump, SS, reduceIte, reduceCtorEq, f8, d1, f1, hwip, d2, f2, d3, f6, f7]; first | done | exact rfl) ?_))
            exact ⟨.inr rfl, _, rfl, hE.trans (by repeat (first | exact Keeps.refl _ _ | (refine Keeps.bumpR ?_ _))), by rw [hb]; rfl⟩
        · have d2 : decide (((i - p : Nat) : Int) ≤ 4096) = false := decide_eq_false (by omega)
          rw [if_neg (by omega)] at hb
          repeat (first | (refine aw_seq ?_) | (refine aw_reg0 (by simp only [SZ, Nat.reduceAdd]; exact rfl) ?_) | (refine aw_reg (by decide +kernel) (by simp only [SZ, Nat.reduceAdd]; exact rfl) ?_) | (refine aw_regS (by decide +kernel) (by simp only [SZ, Nat.reduceAdd]; exact rfl) ?_) | (refine arl_nil ?_) | (refine aw_skip ?_) | (refine aw_block ?_) | (refine aw_exit ?_) | (refine aw_ret ?_) | (refine arl_cons rfl rfl (by simp +decide only [aop, abuiltin, aeval, aintBin, bin_int, aload_bump, SS, reduceIte, reduceCtorEq, f8, d1, f1, hwip, d2, f6, f7]; exact rfl) (by first | rfl | with_reducible assumption) rfl ?_) | (refine arl_none rfl rfl (by simp +decide only [aop, abuiltin, aeval, aintBin, bin_int, aload_bump, SS, reduceIte, reduceCtorEq, f8, d1, f1, hwip, d2, f6, f7]; exact rfl) rfl rfl ?_) | (refine arl_off rfl rfl ?_) | (refine aw_condT (by simp +decide only [aop, abuiltin, aeval, aintBin, bin_int, aload_bump, SS, reduceIte, reduceCtorEq, f8, d1, f1, hwip, d2, f6, f7]; first | done | exact rfl) ?_) | (refine aw_condF (by simp +decide only [aop, abuiltin, aeval, aintBin, bin_int, aload_bump, SS, reduceIte, reduceCtorEq, f8, d1, f1, hwip, d2, f6, f7]; first | done | exact rfl) ?_))
          exact ⟨.inr rfl, _, rfl, hE.trans (by repeat (first | exact Keeps.refl _ _ | (refine Keeps.bumpR ?_ _))), by rw [hb]; rfl⟩
    · refine ⟨hE1.trans (by repeat (first | exact Keeps.refl _ _ | (refine Keeps.bumpR ?_ _))), w0, depth, (0, 0), by omega, rfl, Nat.le_refl _, ?_, rfl, rfl, rfl, rfl, rfl, rfl, ?_⟩
      · cases w0 with
        | zero => exact .inl rfl
        | succ p' => have := lst_at b (hsq b) (hsq b i) i p' hw0; exact .inr ⟨by omega, this.2.2⟩
      · rw [← hw0]
        exact bst_chain b (hsq b) i i depth (0, 0) (Nat.le_refl _) h4 (fun q _ h => hsq_eq b h)
  · have d1 : decide (((i + 4 : Nat) : Int) > (b.length : Int)) = true := decide_eq_true (by omega)
    repeat (first | (refine aw_seq ?_) | (refine aw_reg0 (by simp only [SZ, Nat.reduceAdd]; exact rfl) ?_) | (refine aw_reg (by decide +kernel) (by simp only [SZ, Nat.reduceAdd]; exact rfl) ?_) | (refine aw_regS (by decide +kernel) (by simp only [SZ, Nat.reduceAdd]; exact rfl) ?_) | (refine arl_nil ?_) | (refine aw_skip ?_) | (refine aw_block ?_) | (refine aw_exit ?_) | (refine aw_ret ?_) | (refine arl_cons rfl rfl (by simp +decide only [aop, abuiltin, aeval, aintBin, bin_int, aload_bump, SS, reduceIte, reduceCtorEq, hw4, fc0, hcb, hln, d1]; exact rfl) (by first | rfl | with_reducible assumption) rfl ?_) | (refine arl_none rfl rfl (by simp +decide only [aop, abuiltin, aeval, aintBin, bin_int, aload_bump, SS, reduceIte, reduceCtorEq, hw4, fc0, hcb, hln, d1]; exact rfl) rfl rfl ?_) | (refine arl_off rfl rfl ?_) | (refine aw_condT (by simp +decide only [aop, abuiltin, aeval, aintBin, bin_int, aload_bump, SS, reduceIte, reduceCtorEq, hw4, fc0, hcb, hln, d1]; first | done | exact rfl) ?_) | (refine aw_condF (by simp +decide only [aop, abuiltin, aeval, aintBin, bin_int, aload_bump, SS, reduceIte, reduceCtorEq, hw4, fc0, hcb, hln, d1]; first | done | exact rfl) ?_))
    refine ⟨.inr rfl, _, rfl, (by repeat (first | exact Keeps.refl _ _ | (refine Keeps.bumpR ?_ _))), ?_⟩
    rw [bst_none b i _ _ (by omega) hi]
    rfl
end Go.Proofs.YthjfncppiffnmaaDoor.Ra
