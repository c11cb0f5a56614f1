/- leatlaw05.TokenMakes. -/
import Derived.Test.YtjgdagiffmpkhaaTl
namespace Go.Proofs.Ytjgdagiffmpkhaa.Ra
open Go Go.RowKit
set_option linter.unusedVariables false
set_option linter.unusedSimpArgs false
set_option maxRecDepth 10000
theorem expd_bad (most : Int) : ∀ (f : Nat) (b out : List Int), (expd most f b out).1 ≠ 0 → (expd most f b out).2 = [] := by
  intro f
  induction f with
  | zero => intro b out h; exact absurd rfl h
  | succ f ih =>
    intro b out h
    rw [expd] at h ⊢
    split
    · rename_i h1; rw [if_pos h1] at h; exact absurd rfl h
    · rename_i h1
      rw [if_neg h1] at h
      split
      · rfl
      · rename_i h2
        rw [if_neg h2] at h
        split
        · rfl
        · rename_i h3
          rw [if_neg h3] at h
          exact ih _ _ h
theorem run_bad (most : Int) : ∀ (ts : List Tok) (out : List Int), (run most ts out).1 ≠ 0 → (run most ts out).2 = [] := by
  intro ts
  induction ts with
  | nil => intro out h; exact absurd rfl h
  | cons t ts ih =>
    intro out h
    rw [run] at h ⊢
    split
    · rename_i h1; rw [if_pos h1] at h; exact ih _ h
    · rfl
theorem pars_expd (most : Int) : ∀ (f : Nat) (b out : List Int) (acc : List Tok), b.length ≤ f → (∀ x ∈ b, 0 ≤ x ∧ x < 256) →
    ((pars b.length b acc).1 ≠ 0 → (expd most b.length b out).1 ≠ 0) ∧ ((pars b.length b acc).1 = 0 → ∃ ts, (pars b.length b acc).2 = acc ++ ts ∧ expd most b.length b out = run most ts out ∧ ∀ t ∈ ts, t.1.length ≤ 128) := by
  intro f
  induction f with
  | zero =>
    intro b out acc hf _
    have : b = [] := List.eq_nil_of_length_eq_zero (by omega)
    subst this
    exact ⟨fun h => absurd rfl h, fun _ => ⟨[], by simp [pars], rfl, by simp⟩⟩
  | succ f ih =>
    intro b out acc hf hby
    by_cases hne : b = []
    · subst hne
      exact ⟨fun h => absurd rfl h, fun _ => ⟨[], by simp [pars], rfl, by simp⟩⟩
    · rw [pars_step b acc hby hne, expd_step most b out hby hne]
      by_cases h1 : (one b).1 ≠ 0
      · rw [if_pos h1, if_pos h1]
        exact ⟨fun h => h, fun h => absurd h h1⟩
      · rw [if_neg h1, if_neg h1]
        have h1' : (one b).1 = 0 := by simpa using h1
        obtain ⟨k1, k2, k3⟩ := one_len h1' hby
        by_cases h2 : (carry out (one b).2.1 (bnd most)).1 ≠ 0
        · rw [if_pos h2]
          refine ⟨fun _ => h2, fun h => ?_⟩
          obtain ⟨i1, i2⟩ := ih (b.drop (one b).2.2) [] (acc ++ [(one b).2.1]) (by rw [List.length_drop]; omega) (fun x hx => hby x (List.mem_of_mem_drop hx))
          obtain ⟨ts, j1, j2, j3⟩ := i2 h
          refine ⟨(one b).2.1 :: ts, by rw [j1]; simp, ?_, fun t ht => ?_⟩
          · rw [run, if_neg h2]
          · rcases List.mem_cons.1 ht with rfl | ht
            · exact k3
            · exact j3 t ht
        · rw [if_neg h2]
          obtain ⟨i1, i2⟩ := ih (b.drop (one b).2.2) (carry out (one b).2.1 (bnd most)).2 (acc ++ [(one b).2.1]) (by rw [List.length_drop]; omega) (fun x hx => hby x (List.mem_of_mem_drop hx))
          refine ⟨i1, fun h => ?_⟩
          obtain ⟨ts, j1, j2, j3⟩ := i2 h
          refine ⟨(one b).2.1 :: ts, by rw [j1]; simp, ?_, fun t ht => ?_⟩
          · rw [j2, run, if_pos (by simpa using h2)]
          · rcases List.mem_cons.1 ht with rfl | ht
            · exact k3
            · exact j3 t ht
theorem cp_prefix (d : Nat) (o : List Int) (n : Nat) : o <+: cp d o n := by
  induction n with
  | zero => exact List.prefix_refl o
  | succ n ih => exact ih.trans (List.prefix_append _ _)
theorem carry_prefix {o : List Int} {t : Tok} {m : Int} (h : (carry o t m).1 = 0) : o <+: (carry o t m).2 ∧ (carry o t m).2 = cp t.2.1.toNat (o ++ t.1) t.2.2.toNat ∧ ¬ ill t = true ∧ t.2.1 ≤ o.length := by
  unfold carry at h ⊢
  by_cases h1 : ill t = true ∨ t.2.1 > (o.length : Int)
  · rw [if_pos h1] at h; cases h
  · rw [if_neg h1] at h ⊢
    by_cases h2 : (o.length : Int) + t.1.length + t.2.2 > m
    · rw [if_pos h2] at h; cases h
    · rw [if_neg h2]
      exact ⟨(List.prefix_append o t.1).trans (cp_prefix _ _ _), rfl, fun h => h1 (.inl h), by have : ¬ t.2.1 > (o.length : Int) := fun h => h1 (.inr h); omega⟩
theorem run_prefix (most : Int) : ∀ (ts : List Tok) (o : List Int), (run most ts o).1 = 0 → o <+: (run most ts o).2 := by
  intro ts
  induction ts with
  | nil => intro o _; exact List.prefix_refl o
  | cons t ts ih =>
    intro o h
    rw [run] at h ⊢
    split
    · rename_i h1
      rw [if_pos h1] at h
      exact (carry_prefix h1).1.trans (ih _ h)
    · rename_i h1
      rw [if_neg h1] at h
      exact absurd h h1
theorem run_most (most : Int) : ∀ (ts : List Tok) (o : List Int), (run most ts o).1 = 0 → (o.length : Int) ≤ bnd most → ((run most ts o).2.length : Int) ≤ bnd most := by
  intro ts
  induction ts with
  | nil => intro o _ h; exact h
  | cons t ts ih =>
    intro o h ho
    rw [run] at h ⊢
    split
    · rename_i h1
      rw [if_pos h1] at h
      have := carry_len h1
      have hb := bnd_range most
      exact ih _ h (by omega)
    · rename_i h1
      rw [if_neg h1] at h
      exact absurd h h1
theorem pre_getD {a b : List Int} (h : a <+: b) {j : Nat} (hj : j < a.length) : b.getD j 0 = a.getD j 0 := by
  obtain ⟨r, rfl⟩ := h
  exact getD_left hj
theorem cp_rec {d : Nat} {o : List Int} (h1 : 1 ≤ d) (h2 : d ≤ o.length) : ∀ n i, i < n → (cp d o n).getD (o.length + i) 0 = (cp d o n).getD (o.length + i - d) 0 := by
  intro n
  induction n with
  | zero => intro i hi; omega
  | succ n ih =>
    intro i hi
    by_cases hin : i < n
    · rw [cp, getD_left (by rw [cp_len]; omega), getD_left (by rw [cp_len]; omega), ih i hin]
    · obtain rfl : i = n := by omega
      have e := getD_at (l := cp d o i) (x := (cp d o i).getD ((cp d o i).length - d) 0)
      rw [cp_len] at e
      rw [cp, cp_len, e, getD_left (by rw [cp_len]; omega)]
set_option maxHeartbeats 8000000 in
theorem makes_ok {st : St} (hw : WF st) {v : AV} {b : List Int} (most : Int) (hb : RdB st (fun _ => True) v b) (hbl : b.length ≤ 1048576) (hby : ∀ x ∈ b, 0 ≤ x ∧ x < 256) :
    ACalls Try.prog 8 [v, i64 most] st (fun r s => r = .pl (.bool true)) := by
  replace hb := hb.lt hw
  have hvs := hb.solid
  have hcount := pars_count b.length b [] (Nat.le_refl _) hby
  simp only [List.length_nil] at hcount
  obtain ⟨hp1, hp2⟩ := pars_expd most b.length b [] [] (Nat.le_refl _) hby
  refine acalls_of Try.func8 rfl (by kernel_rfl) (by simp [hvs]; rfl) ?_
  repeat (first | (refine aw_seq ?_) | (refine aw_reg0 (by simp only [SZ, Nat.reduceAdd]; exact rfl) ?_) | (refine aw_reg (by decide +kernel) (by simp only [SZ, Nat.reduceAdd]; exact rfl) ?_) | (refine aw_regS (by decide +kernel) (by simp only [SZ, Nat.reduceAdd]; exact rfl) ?_) | (refine arl_nil ?_) | (refine aw_skip ?_) | (refine aw_block ?_) | (refine aw_exit ?_) | (refine aw_ret ?_) | (refine arl_cons rfl rfl (by simp +decide only [aop, abuiltin, aeval, aintBin, bin_int, aload_bump, SS, reduceIte, reduceCtorEq]; exact rfl) (by first | rfl | assumption) rfl ?_) | (refine arl_none rfl rfl (by simp +decide only [aop, abuiltin, aeval, aintBin, bin_int, aload_bump, SS, reduceIte, reduceCtorEq]; exact rfl) rfl rfl ?_) | (refine arl_off rfl rfl ?_) | (refine aw_condT (by simp +decide only [aop, abuiltin, aeval, aintBin, bin_int, aload_bump, SS, reduceIte, reduceCtorEq]; first | done | exact rfl) ?_) | (refine aw_condF (by simp +decide only [aop, abuiltin, aeval, aintBin, bin_int, aload_bump, SS, reduceIte, reduceCtorEq]; first | done | exact rfl) ?_))
  refine arl_call rfl rfl rfl rfl rfl rfl ((alive_ok (by repeat (first | assumption | (refine WF.bump ?_ _)))).wf (by repeat (first | assumption | (refine WF.bump ?_ _) | (refine WF.put ?_ (by simp only [n_bump, n_put, n_touch, n_kill] at *; omega) (by simp only [n_bump, n_put, n_touch, n_kill] at *; omega)))) |>.mono ?_)
  rintro r s1 ⟨hw1, hn1, hE1, rfl⟩
  refine ⟨by first | rfl | assumption, ?_⟩
  replace hE1 : Ext st s1 := Keeps.trans (by repeat (first | assumption | exact Keeps.refl _ _ | (refine Keeps.bumpR ?_ _) | (refine Keeps.put ?_ (by assumption) (by simp only [n_bump, n_put, n_touch, n_kill] at *; omega)))) hE1
  have hN1 := hE1.n
  repeat (first | (refine aw_seq ?_) | (refine aw_reg0 (by simp only [SZ, Nat.reduceAdd]; exact rfl) ?_) | (refine aw_reg (by decide +kernel) (by simp only [SZ, Nat.reduceAdd]; exact rfl) ?_) | (refine aw_regS (by decide +kernel) (by simp only [SZ, Nat.reduceAdd]; exact rfl) ?_) | (refine arl_nil ?_) | (refine aw_skip ?_) | (refine aw_block ?_) | (refine aw_exit ?_) | (refine aw_ret ?_) | (refine arl_cons rfl rfl (by simp +decide only [aop, abuiltin, aeval, aintBin, bin_int, aload_bump, SS, reduceIte, reduceCtorEq]; exact rfl) (by first | rfl | assumption) rfl ?_) | (refine arl_none rfl rfl (by simp +decide only [aop, abuiltin, aeval, aintBin, bin_int, aload_bump, SS, reduceIte, reduceCtorEq]; exact rfl) rfl rfl ?_) | (refine arl_off rfl rfl ?_) | (refine aw_condT (by simp +decide only [aop, abuiltin, aeval, aintBin, bin_int, aload_bump, SS, reduceIte, reduceCtorEq]; first | done | exact rfl) ?_) | (refine aw_condF (by simp +decide only [aop, abuiltin, aeval, aintBin, bin_int, aload_bump, SS, reduceIte, reduceCtorEq]; first | done | exact rfl) ?_))
  refine arl_call rfl rfl rfl rfl rfl rfl ((parse_ok (by repeat (first | assumption | (refine WF.bump ?_ _))) ((hb.up hE1).up (by repeat (first | exact Keeps.refl _ _ | (refine Keeps.bumpR ?_ _)))) (by omega) hby).wf (by repeat (first | assumption | (refine WF.bump ?_ _) | (refine WF.put ?_ (by simp only [n_bump, n_put, n_touch, n_kill] at *; omega) (by simp only [n_bump, n_put, n_touch, n_kill] at *; omega)))) |>.mono ?_)
  rintro r s2 ⟨hw2, hn2, hE2, x, L, rfl, hxs, hX, hL, hLd⟩
  refine ⟨by first | rfl | assumption, ?_⟩
  replace hE2 : Ext s1 s2 := Keeps.trans (by repeat (first | assumption | exact Keeps.refl _ _ | (refine Keeps.bumpR ?_ _) | (refine Keeps.put ?_ (by assumption) (by simp only [n_bump, n_put, n_touch, n_kill] at *; omega)))) hE2
  have hN2 := hE2.n
  have hS2 := hE1.trans hE2
  by_cases he : (pars b.length b []).1 = 0
  · obtain ⟨ts, hr1, hr2, hr3⟩ := hp2 he
    rw [List.nil_append] at hr1
    rw [hr1] at hX hcount
    have e1 := bne_f he
    replace hX := (oTok_rd hX).rd.lt hw2
    have hxs' := hX.solid
    repeat (first | (refine aw_seq ?_) | (refine aw_reg0 (by simp only [SZ, Nat.reduceAdd]; exact rfl) ?_) | (refine aw_reg (by decide +kernel) (by simp only [SZ, Nat.reduceAdd]; exact rfl) ?_) | (refine aw_regS (by decide +kernel) (by simp only [SZ, Nat.reduceAdd]; exact rfl) ?_) | (refine arl_nil ?_) | (refine aw_skip ?_) | (refine aw_block ?_) | (refine aw_exit ?_) | (refine aw_ret ?_) | (refine arl_cons rfl rfl (by simp +decide only [aop, abuiltin, aeval, aintBin, bin_int, aload_bump, SS, reduceIte, reduceCtorEq, e1]; exact rfl) (by first | rfl | assumption) rfl ?_) | (refine arl_none rfl rfl (by simp +decide only [aop, abuiltin, aeval, aintBin, bin_int, aload_bump, SS, reduceIte, reduceCtorEq, e1]; exact rfl) rfl rfl ?_) | (refine arl_off rfl rfl ?_) | (refine aw_condT (by simp +decide only [aop, abuiltin, aeval, aintBin, bin_int, aload_bump, SS, reduceIte, reduceCtorEq, e1]; first | done | exact rfl) ?_) | (refine aw_condF (by simp +decide only [aop, abuiltin, aeval, aintBin, bin_int, aload_bump, SS, reduceIte, reduceCtorEq, e1]; first | done | exact rfl) ?_))
    refine arl_call rfl rfl rfl rfl rfl rfl ((expand_ok (by repeat (first | assumption | (refine WF.bump ?_ _))) most ((hb.up hS2).up (by repeat (first | exact Keeps.refl _ _ | (refine Keeps.bumpR ?_ _)))) (by omega) hby).wf (by repeat (first | assumption | (refine WF.bump ?_ _) | (refine WF.put ?_ (by simp only [n_bump, n_put, n_touch, n_kill] at *; omega) (by simp only [n_bump, n_put, n_touch, n_kill] at *; omega)))) |>.mono ?_)
    rintro r s3 ⟨hw3, hn3, hE3, a, rfl, has, hA⟩
    refine ⟨by first | rfl | assumption, ?_⟩
    replace hE3 : Ext s2 s3 := Keeps.trans (by repeat (first | assumption | exact Keeps.refl _ _ | (refine Keeps.bumpR ?_ _) | (refine Keeps.put ?_ (by assumption) (by simp only [n_bump, n_put, n_touch, n_kill] at *; omega)))) hE3
    have hN3 := hE3.n
    rw [hr2] at hA ⊢
    replace hA := hA.lt hw3
    have hS3 := hS2.trans hE3
    repeat (first | (refine aw_seq ?_) | (refine aw_reg0 (by simp only [SZ, Nat.reduceAdd]; exact rfl) ?_) | (refine aw_reg (by decide +kernel) (by simp only [SZ, Nat.reduceAdd]; exact rfl) ?_) | (refine aw_regS (by decide +kernel) (by simp only [SZ, Nat.reduceAdd]; exact rfl) ?_) | (refine arl_nil ?_) | (refine aw_skip ?_) | (refine aw_block ?_) | (refine aw_exit ?_) | (refine aw_ret ?_) | (refine arl_cons rfl rfl (by simp +decide only [aop, abuiltin, aeval, aintBin, bin_int, aload_bump, SS, reduceIte, reduceCtorEq]; exact rfl) (by first | rfl | assumption) rfl ?_) | (refine arl_none rfl rfl (by simp +decide only [aop, abuiltin, aeval, aintBin, bin_int, aload_bump, SS, reduceIte, reduceCtorEq]; exact rfl) rfl rfl ?_) | (refine arl_off rfl rfl ?_) | (refine aw_condT (by simp +decide only [aop, abuiltin, aeval, aintBin, bin_int, aload_bump, SS, reduceIte, reduceCtorEq]; first | done | exact rfl) ?_) | (refine aw_condF (by simp +decide only [aop, abuiltin, aeval, aintBin, bin_int, aload_bump, SS, reduceIte, reduceCtorEq]; first | done | exact rfl) ?_))
    refine arl_call rfl rfl rfl rfl rfl rfl ((run_ok (by repeat (first | assumption | (refine WF.bump ?_ _))) most ((hX.up hE3).up (by repeat (first | exact Keeps.refl _ _ | (refine Keeps.bumpR ?_ _)))) (by omega) (fun t ht => by have := hr3 t ht; omega)).wf (by repeat (first | assumption | (refine WF.bump ?_ _) | (refine WF.put ?_ (by simp only [n_bump, n_put, n_touch, n_kill] at *; omega) (by simp only [n_bump, n_put, n_touch, n_kill] at *; omega)))) |>.mono ?_)
    rintro r s4 ⟨hw4, hn4, hE4, w, rfl, hws, hW⟩
    refine ⟨by first | rfl | assumption, ?_⟩
    replace hE4 : Ext s3 s4 := Keeps.trans (by repeat (first | assumption | exact Keeps.refl _ _ | (refine Keeps.bumpR ?_ _) | (refine Keeps.put ?_ (by assumption) (by simp only [n_bump, n_put, n_touch, n_kill] at *; omega)))) hE4
    have hN4 := hE4.n
    have hrl := run_len most ts [] (by simp)
    have hbq : ((run most ts []).1 != (run most ts []).1) = false := by simp
    repeat (first | (refine aw_seq ?_) | (refine aw_reg0 (by simp only [SZ, Nat.reduceAdd]; exact rfl) ?_) | (refine aw_reg (by decide +kernel) (by simp only [SZ, Nat.reduceAdd]; exact rfl) ?_) | (refine aw_regS (by decide +kernel) (by simp only [SZ, Nat.reduceAdd]; exact rfl) ?_) | (refine arl_nil ?_) | (refine aw_skip ?_) | (refine aw_block ?_) | (refine aw_exit ?_) | (refine aw_ret ?_) | (refine arl_cons rfl rfl (by simp +decide only [aop, abuiltin, aeval, aintBin, bin_int, aload_bump, SS, reduceIte, reduceCtorEq, hbq]; exact rfl) (by first | rfl | assumption) rfl ?_) | (refine arl_none rfl rfl (by simp +decide only [aop, abuiltin, aeval, aintBin, bin_int, aload_bump, SS, reduceIte, reduceCtorEq, hbq]; exact rfl) rfl rfl ?_) | (refine arl_off rfl rfl ?_) | (refine aw_condT (by simp +decide only [aop, abuiltin, aeval, aintBin, bin_int, aload_bump, SS, reduceIte, reduceCtorEq, hbq]; first | done | exact rfl) ?_) | (refine aw_condF (by simp +decide only [aop, abuiltin, aeval, aintBin, bin_int, aload_bump, SS, reduceIte, reduceCtorEq, hbq]; first | done | exact rfl) ?_))
    refine arl_call rfl rfl rfl rfl rfl rfl ((same_self (by repeat (first | assumption | (refine WF.bump ?_ _))) ((hA.rd.up hE4).up (by repeat (first | exact Keeps.refl _ _ | (refine Keeps.bumpR ?_ _)))) (hW.rd.up (by repeat (first | exact Keeps.refl _ _ | (refine Keeps.bumpR ?_ _)))) (by omega)).wf (by repeat (first | assumption | (refine WF.bump ?_ _) | (refine WF.put ?_ (by simp only [n_bump, n_put, n_touch, n_kill] at *; omega) (by simp only [n_bump, n_put, n_touch, n_kill] at *; omega)))) |>.mono ?_)
    rintro r s5 ⟨hw5, hn5, hE5, rfl⟩
    refine ⟨by first | rfl | assumption, ?_⟩
    replace hE5 : Ext s4 s5 := Keeps.trans (by repeat (first | assumption | exact Keeps.refl _ _ | (refine Keeps.bumpR ?_ _) | (refine Keeps.put ?_ (by assumption) (by simp only [n_bump, n_put, n_touch, n_kill] at *; omega)))) hE5
    have hN5 := hE5.n
    have hS5 := (hS3.trans hE4).trans hE5
    by_cases hre : (run most ts []).1 = 0
    · have e2 := bne_f hre
      have hmo := run_most most ts [] hre (by have := bnd_range most; simp; omega)
      obtain ⟨out, hout⟩ : ∃ out, (run most ts []).2 = out := ⟨_, rfl⟩
      have hrun : run most ts [] = (0, out) := by rw [← hout, ← hre]
      rw [hout] at hA hrl hmo
      have hal := hA.rd.len
      have hln := RdE.len hX TTK
      repeat (first | (refine aw_seq ?_) | (refine aw_reg0 (by simp only [SZ, Nat.reduceAdd]; exact rfl) ?_) | (refine aw_reg (by decide +kernel) (by simp only [SZ, Nat.reduceAdd]; exact rfl) ?_) | (refine aw_regS (by decide +kernel) (by simp only [SZ, Nat.reduceAdd]; exact rfl) ?_) | (refine arl_nil ?_) | (refine aw_skip ?_) | (refine aw_block ?_) | (refine aw_exit ?_) | (refine aw_ret ?_) | (refine arl_cons rfl rfl (by simp +decide only [aop, abuiltin, aeval, aintBin, bin_int, aload_bump, SS, reduceIte, reduceCtorEq, e2, hln]; exact rfl) (by first | rfl | assumption) rfl ?_) | (refine arl_none rfl rfl (by simp +decide only [aop, abuiltin, aeval, aintBin, bin_int, aload_bump, SS, reduceIte, reduceCtorEq, e2, hln]; exact rfl) rfl rfl ?_) | (refine arl_off rfl rfl ?_) | (refine aw_condT (by simp +decide only [aop, abuiltin, aeval, aintBin, bin_int, aload_bump, SS, reduceIte, reduceCtorEq, e2, hln]; first | done | exact rfl) ?_) | (refine aw_condF (by simp +decide only [aop, abuiltin, aeval, aintBin, bin_int, aload_bump, SS, reduceIte, reduceCtorEq, e2, hln]; first | done | exact rfl) ?_))
      refine AW.mono (AW.wf (aw_rounds_wf (fun m fr s => Ext s5 s ∧ ∃ (k : Nat) (o : List Int), k ≤ ts.length ∧ m = ts.length - k ∧ fr 1 = i64 most ∧ fr 9 = a ∧ fr 13 = i64 o.length ∧ fr 66 = x ∧ fr 67 = i64 ts.length ∧ fr 68 = i64 k ∧ o <+: out ∧ run most (ts.drop k) o = (0, out))
        (Q := fun e fr s => e = .exit 0 ∧ Ext s5 s ∧ fr 1 = i64 most ∧ fr 9 = a ∧ fr 13 = i64 out.length) ?_ ts.length _ _ (by repeat (first | assumption | (refine WF.bump ?_ _))) ?_) (by repeat (first | assumption | (refine WF.bump ?_ _)))) ?_
      · rintro m fr s hws ⟨hE, k, o, hk, rfl, f1, f9, f13, f66, f67, f68, hpre, hrn⟩
        have hEn := hE.n
        have hol := hpre.length_le
        by_cases hlt : k < ts.length
        · have hd : decide ((k : Int) < (ts.length : Int)) = true := decide_eq_true (by omega)
          obtain ⟨q, c, hq1, hq2, hq3, hq4, hq5, hq6⟩ := tk_load (hX.up ((hE3.trans hE4).trans (hE5.trans hE))) k hlt
          rw [List.drop_eq_getElem_cons hlt, run] at hrn
          have htl' := hr3 _ (List.getElem_mem hlt)
          generalize htk : ts[k] = t at hq3 hq4 hrn htl'
          by_cases hc0 : (carry o t (bnd most)).1 = 0
          case neg =>
            rw [if_neg hc0] at hrn
            exact absurd (congrArg Prod.fst hrn) hc0
          rw [if_pos hc0] at hrn
          obtain ⟨c1, c2, c3, c4⟩ := carry_prefix hc0
          have hpre2 : (carry o t (bnd most)).2 <+: out := by
            have := run_prefix most (ts.drop (k + 1)) (carry o t (bnd most)).2 (by rw [hrn])
            rw [hrn] at this
            exact this
          obtain ⟨r1, r2, r3, r4, r5, r6⟩ := ill_range c3
          obtain ⟨n, hn⟩ : ∃ n : Nat, t.2.2 = n := ⟨t.2.2.toNat, by omega⟩
          obtain ⟨d, hdd⟩ : ∃ d : Nat, t.2.1 = d := ⟨t.2.1.toNat, by omega⟩
          have hol2 : (carry o t (bnd most)).2.length = o.length + t.1.length + n := by rw [c2, cp_len, List.length_append, hn, Int.toNat_natCast]
          have hol3 := hpre2.length_le
          repeat (first | (refine aw_seq ?_) | (refine aw_reg0 (by simp only [SZ, Nat.reduceAdd]; exact rfl) ?_) | (refine aw_reg (by decide +kernel) (by simp only [SZ, Nat.reduceAdd]; exact rfl) ?_) | (refine aw_regS (by decide +kernel) (by simp only [SZ, Nat.reduceAdd]; exact rfl) ?_) | (refine arl_nil ?_) | (refine aw_skip ?_) | (refine aw_block ?_) | (refine aw_exit ?_) | (refine aw_ret ?_))
          repeat (first | (refine aw_seq ?_) | (refine aw_reg0 (by simp only [SZ, Nat.reduceAdd]; exact rfl) ?_) | (refine aw_reg (by decide +kernel) (by simp only [SZ, Nat.reduceAdd]; exact rfl) ?_) | (refine aw_regS (by decide +kernel) (by simp only [SZ, Nat.reduceAdd]; exact rfl) ?_) | (refine arl_nil ?_) | (refine aw_skip ?_) | (refine aw_block ?_) | (refine aw_exit ?_) | (refine aw_ret ?_) | (refine arl_cons rfl rfl (by simp +decide only [aop, abuiltin, aeval, aintBin, bin_int, aload_bump, SS, reduceIte, reduceCtorEq, f67, f68, hd]; exact rfl) (by first | rfl | assumption) rfl ?_) | (refine arl_none rfl rfl (by simp +decide only [aop, abuiltin, aeval, aintBin, bin_int, aload_bump, SS, reduceIte, reduceCtorEq, f67, f68, hd]; exact rfl) rfl rfl ?_) | (refine arl_off rfl rfl ?_) | (refine aw_condT (by simp +decide only [aop, abuiltin, aeval, aintBin, bin_int, aload_bump, SS, reduceIte, reduceCtorEq, f67, f68, hd]; first | done | exact rfl) ?_) | (refine aw_condF (by simp +decide only [aop, abuiltin, aeval, aintBin, bin_int, aload_bump, SS, reduceIte, reduceCtorEq, f67, f68, hd]; first | done | exact rfl) ?_))
          refine arl_cons rfl rfl (by simp +decide only [aop, abuiltin, aeval, aintBin, bin_int, aload_bump, SS, reduceIte, reduceCtorEq, f66, f68, hq1]; exact rfl) (by first | rfl | assumption) rfl ?_
          refine arl_cons rfl rfl (by simp +decide only [aop, abuiltin, aeval, aintBin, bin_int, aload_bump, SS, reduceIte, reduceCtorEq, hq3]; exact rfl) (by first | rfl | assumption) rfl ?_
          refine arl_alloc rfl rfl rfl szTK zTK (fresh hws (by simp only [n_bump]; omega)) ?_
          intro s6 hn6 hwf6 hE6 hg6 hD6
          have hw6 : WF s6 := hwf6 (by repeat (first | assumption | (refine WF.bump ?_ _))) (by simp only [n_bump, n_put, n_touch, n_kill] at *; omega)
          refine arl_storeW (e := TK) (cs := [c, i64 t.2.1, i64 t.2.2]) rfl rfl rfl rfl rfl hg6 szTK rfl rfl rfl (by simp [hq6]; exact ⟨rfl, rfl⟩) rfl ?_
          intro s7 hn7 hwf7 hE7 hg7 hD7
          have hw7 : WF s7 := hwf7 hw6
          replace hE7 : Ext s s7 := Keeps.call ((show Ext s _ from (by repeat (first | exact Keeps.refl _ _ | (refine Keeps.bumpR ?_ _)))).trans hE6) hE7 hws (by simp only [n_bump]; intro g h; right; omega)
          have hN7 := hE7.n
          obtain ⟨o0, o1, o2, o3⟩ := tkLd hg7
          rw [hn] at o2
          have hlc := hq4.len
          have hwn : IntKind.i64.wrap ((t.1.length : Int) + (n : Int)) = ((t.1.length + n : Nat) : Int) := by rw [wrap64_of (by omega) (by omega)]; omega
          have hneg : decide ((n : Int) < 0) = false := decide_eq_false (by omega)
          have hwol : IntKind.i64.wrap ((out.length : Int) - (o.length : Int)) = (out.length : Int) - o.length := wrap64_of (by omega) (by omega)
          have hgt : decide (((t.1.length + n : Nat) : Int) > (out.length : Int) - (o.length : Int)) = false := decide_eq_false (by omega)
          have hwat : IntKind.i64.wrap ((o.length : Int) + ((t.1.length + n : Nat) : Int)) = ((o.length + t.1.length + n : Nat) : Int) := by rw [wrap64_of (by omega) (by omega)]; omega
          have hwk := wrap_succ (k := k) (by omega)
          have hS7 : Ext s3 s7 := (hE4.trans hE5).trans (hE.trans hE7)
          repeat (first | (refine aw_seq ?_) | (refine aw_reg0 (by simp only [SZ, Nat.reduceAdd]; exact rfl) ?_) | (refine aw_reg (by decide +kernel) (by simp only [SZ, Nat.reduceAdd]; exact rfl) ?_) | (refine aw_regS (by decide +kernel) (by simp only [SZ, Nat.reduceAdd]; exact rfl) ?_) | (refine arl_nil ?_) | (refine aw_skip ?_) | (refine aw_block ?_) | (refine aw_exit ?_) | (refine aw_ret ?_) | (refine arl_cons rfl rfl (by simp +decide only [aop, abuiltin, aeval, aintBin, bin_int, aload_bump, SS, reduceIte, reduceCtorEq, faT0, faT2, o0, o2, hlc, hwn, hneg, f9, hal, f13, hwol, hgt]; exact rfl) (by first | rfl | assumption) rfl ?_) | (refine arl_none rfl rfl (by simp +decide only [aop, abuiltin, aeval, aintBin, bin_int, aload_bump, SS, reduceIte, reduceCtorEq, faT0, faT2, o0, o2, hlc, hwn, hneg, f9, hal, f13, hwol, hgt]; exact rfl) rfl rfl ?_) | (refine arl_off rfl rfl ?_) | (refine aw_condT (by simp +decide only [aop, abuiltin, aeval, aintBin, bin_int, aload_bump, SS, reduceIte, reduceCtorEq, faT0, faT2, o0, o2, hlc, hwn, hneg, f9, hal, f13, hwol, hgt]; first | done | exact rfl) ?_) | (refine aw_condF (by simp +decide only [aop, abuiltin, aeval, aintBin, bin_int, aload_bump, SS, reduceIte, reduceCtorEq, faT0, faT2, o0, o2, hlc, hwn, hneg, f9, hal, f13, hwol, hgt]; first | done | exact rfl) ?_))
          refine AW.mono (AW.wf (aw_rounds_wf (fun m fr s' => Ext s7 s' ∧ ∃ i : Nat, i ≤ t.1.length + n ∧ m = t.1.length + n - i ∧ fr 1 = i64 most ∧ fr 9 = a ∧ fr 13 = i64 o.length ∧ fr 66 = x ∧ fr 67 = i64 ts.length ∧ fr 68 = i64 k ∧ fr 15 = .ptr ((s.bump 1).n + 2) 0 ∧ fr 16 = i64 ((t.1.length + n : Nat) : Int) ∧ fr 17 = i64 i)
            (Q := fun e fr s' => e = .exit 2 ∧ Ext s7 s' ∧ fr 1 = i64 most ∧ fr 9 = a ∧ fr 13 = i64 o.length ∧ fr 66 = x ∧ fr 67 = i64 ts.length ∧ fr 68 = i64 k ∧ fr 16 = i64 ((t.1.length + n : Nat) : Int)) ?_ (t.1.length + n) _ _ (by repeat (first | assumption | (refine WF.bump ?_ _))) ?_) (by repeat (first | assumption | (refine WF.bump ?_ _)))) ?_
          · rintro m fr s8 hws8 ⟨hE8, i, hi, rfl, f1, f9, f13, f66, f67, f68, f15, f16, f17⟩
            by_cases hin : i < t.1.length + n
            · have hd1 : decide ((i : Int) < ((t.1.length + n : Nat) : Int)) = true := decide_eq_true (by omega)
              obtain ⟨p0, p1, p2, p3⟩ := tkLd (hE8.get _ _ hg7 (fun h => h))
              rw [hdd] at p1
              have hwi : IntKind.i64.wrap ((o.length : Int) + (i : Int)) = ((o.length + i : Nat) : Int) := by rw [wrap64_of (by omega) (by omega)]; omega
              obtain ⟨w1, x1, x1s, x1l⟩ := (hA.rd.up (hS7.trans hE8)).at .i64 ((o.length + i : Nat) : Int) (by omega) (by omega)
              rw [Int.toNat_natCast, pre_getD hpre2 (by omega), c2, hn, hdd, Int.toNat_natCast, Int.toNat_natCast] at x1l
              have hwi2 := wrap_succ (k := i) (by omega)
              by_cases hd0 : d = 0
              · subst hd0
                have hn0 : n = 0 := by omega
                subst hn0
                have z1 := beqT (a := ((0 : Nat) : Int)) (b := 0) rfl
                have z2 := bne_f (a := ((0 : Nat) : Int)) (b := 0) rfl
                have hge : decide ((i : Int) ≥ (t.1.length : Int)) = false := decide_eq_false (by omega)
                obtain ⟨w2, x2, x2s, x2l⟩ := (hq4.up (hE7.trans hE8)).at .i64 (i : Int) (by omega) (by omega)
                rw [Int.toNat_natCast] at x2l
                have hval : (cp 0 (o ++ t.1) 0).getD (o.length + i) 0 = t.1.getD i 0 := by
                  rw [cp, List.getD_eq_getElem?_getD, List.getD_eq_getElem?_getD, List.getElem?_append_right (by omega), Nat.add_sub_cancel_left]
                rw [hval] at x1l
                have z3 : (t.1.getD i 0 != t.1.getD i 0) = false := by simp
                repeat (first | (refine aw_seq ?_) | (refine aw_reg0 (by simp only [SZ, Nat.reduceAdd]; exact rfl) ?_) | (refine aw_reg (by decide +kernel) (by simp only [SZ, Nat.reduceAdd]; exact rfl) ?_) | (refine aw_regS (by decide +kernel) (by simp only [SZ, Nat.reduceAdd]; exact rfl) ?_) | (refine arl_nil ?_) | (refine aw_skip ?_) | (refine aw_block ?_) | (refine aw_exit ?_) | (refine aw_ret ?_) | (refine arl_cons rfl rfl (by simp +decide only [aop, abuiltin, aeval, aintBin, bin_int, aload_bump, SS, reduceIte, reduceCtorEq, f16, f17, hd1, f15, faT0, faT1, p0, p1, z1, z2, hlc, hge, f9, f13, hwi, x1, x1l, x2, x2l, z3, hwi2]; exact rfl) (by first | rfl | assumption) rfl ?_) | (refine arl_none rfl rfl (by simp +decide only [aop, abuiltin, aeval, aintBin, bin_int, aload_bump, SS, reduceIte, reduceCtorEq, f16, f17, hd1, f15, faT0, faT1, p0, p1, z1, z2, hlc, hge, f9, f13, hwi, x1, x1l, x2, x2l, z3, hwi2]; exact rfl) rfl rfl ?_) | (refine arl_off rfl rfl ?_) | (refine aw_condT (by simp +decide only [aop, abuiltin, aeval, aintBin, bin_int, aload_bump, SS, reduceIte, reduceCtorEq, f16, f17, hd1, f15, faT0, faT1, p0, p1, z1, z2, hlc, hge, f9, f13, hwi, x1, x1l, x2, x2l, z3, hwi2]; first | done | exact rfl) ?_) | (refine aw_condF (by simp +decide only [aop, abuiltin, aeval, aintBin, bin_int, aload_bump, SS, reduceIte, reduceCtorEq, f16, f17, hd1, f15, faT0, faT1, p0, p1, z1, z2, hlc, hge, f9, f13, hwi, x1, x1l, x2, x2l, z3, hwi2]; first | done | exact rfl) ?_))
                exact ⟨t.1.length + 0 - (i + 1), by omega, hE8.trans (by repeat (first | exact Keeps.refl _ _ | (refine Keeps.bumpR ?_ _))), i + 1, by omega, rfl, f1, f9, f13, f66, f67, f68, f15, f16, rfl⟩
              · have hcop : cop t = true := by simp [cop]; omega
                have hnil : t.1 = [] := by
                  unfold ill at c3
                  rw [if_pos hcop] at c3
                  simp only [decide_eq_true_eq] at c3
                  exact List.eq_nil_of_length_eq_zero (by omega)
                have hl0 : t.1.length = 0 := by rw [hnil]; rfl
                rw [hnil, List.append_nil] at x1l
                have z1 := beqF (a := (d : Int)) (b := 0) (by omega)
                have z2 := bne_t (a := (d : Int)) (b := 0) (by omega)
                have z4 : decide ((d : Int) < 0) = false := decide_eq_false (by omega)
                have z5 : decide ((d : Int) > ((o.length + i : Nat) : Int)) = false := decide_eq_false (by omega)
                have hwj : IntKind.i64.wrap (((o.length + i : Nat) : Int) - (d : Int)) = ((o.length + i - d : Nat) : Int) := by rw [wrap64_of (by omega) (by omega)]; omega
                obtain ⟨w2, x2, x2s, x2l⟩ := (hA.rd.up (hS7.trans hE8)).at .i64 ((o.length + i - d : Nat) : Int) (by omega) (by omega)
                rw [Int.toNat_natCast, pre_getD hpre2 (by omega), c2, hn, hdd, Int.toNat_natCast, Int.toNat_natCast, hnil, List.append_nil, ← cp_rec (by omega) (by omega) n i (by omega)] at x2l
                have z3 : ((cp d o n).getD (o.length + i) 0 != (cp d o n).getD (o.length + i) 0) = false := by simp
                repeat (first | (refine aw_seq ?_) | (refine aw_reg0 (by simp only [SZ, Nat.reduceAdd]; exact rfl) ?_) | (refine aw_reg (by decide +kernel) (by simp only [SZ, Nat.reduceAdd]; exact rfl) ?_) | (refine aw_regS (by decide +kernel) (by simp only [SZ, Nat.reduceAdd]; exact rfl) ?_) | (refine arl_nil ?_) | (refine aw_skip ?_) | (refine aw_block ?_) | (refine aw_exit ?_) | (refine aw_ret ?_) | (refine arl_cons rfl rfl (by simp +decide only [aop, abuiltin, aeval, aintBin, bin_int, aload_bump, SS, reduceIte, reduceCtorEq, f16, f17, hd1, f15, faT0, faT1, p0, p1, z1, z2, z4, f9, f13, hwi, z5, x1, x1l, hwj, x2, x2l, z3, hwi2]; exact rfl) (by first | rfl | assumption) rfl ?_) | (refine arl_none rfl rfl (by simp +decide only [aop, abuiltin, aeval, aintBin, bin_int, aload_bump, SS, reduceIte, reduceCtorEq, f16, f17, hd1, f15, faT0, faT1, p0, p1, z1, z2, z4, f9, f13, hwi, z5, x1, x1l, hwj, x2, x2l, z3, hwi2]; exact rfl) rfl rfl ?_) | (refine arl_off rfl rfl ?_) | (refine aw_condT (by simp +decide only [aop, abuiltin, aeval, aintBin, bin_int, aload_bump, SS, reduceIte, reduceCtorEq, f16, f17, hd1, f15, faT0, faT1, p0, p1, z1, z2, z4, f9, f13, hwi, z5, x1, x1l, hwj, x2, x2l, z3, hwi2]; first | done | exact rfl) ?_) | (refine aw_condF (by simp +decide only [aop, abuiltin, aeval, aintBin, bin_int, aload_bump, SS, reduceIte, reduceCtorEq, f16, f17, hd1, f15, faT0, faT1, p0, p1, z1, z2, z4, f9, f13, hwi, z5, x1, x1l, hwj, x2, x2l, z3, hwi2]; first | done | exact rfl) ?_))
                exact ⟨t.1.length + n - (i + 1), by omega, hE8.trans (by repeat (first | exact Keeps.refl _ _ | (refine Keeps.bumpR ?_ _))), i + 1, by omega, rfl, f1, f9, f13, f66, f67, f68, f15, f16, rfl⟩
            · have hd1 : decide ((i : Int) < ((t.1.length + n : Nat) : Int)) = false := decide_eq_false (by omega)
              repeat (first | (refine aw_seq ?_) | (refine aw_reg0 (by simp only [SZ, Nat.reduceAdd]; exact rfl) ?_) | (refine aw_reg (by decide +kernel) (by simp only [SZ, Nat.reduceAdd]; exact rfl) ?_) | (refine aw_regS (by decide +kernel) (by simp only [SZ, Nat.reduceAdd]; exact rfl) ?_) | (refine arl_nil ?_) | (refine aw_skip ?_) | (refine aw_block ?_) | (refine aw_exit ?_) | (refine aw_ret ?_) | (refine arl_cons rfl rfl (by simp +decide only [aop, abuiltin, aeval, aintBin, bin_int, aload_bump, SS, reduceIte, reduceCtorEq, f16, f17, hd1]; exact rfl) (by first | rfl | assumption) rfl ?_) | (refine arl_none rfl rfl (by simp +decide only [aop, abuiltin, aeval, aintBin, bin_int, aload_bump, SS, reduceIte, reduceCtorEq, f16, f17, hd1]; exact rfl) rfl rfl ?_) | (refine arl_off rfl rfl ?_) | (refine aw_condT (by simp +decide only [aop, abuiltin, aeval, aintBin, bin_int, aload_bump, SS, reduceIte, reduceCtorEq, f16, f17, hd1]; first | done | exact rfl) ?_) | (refine aw_condF (by simp +decide only [aop, abuiltin, aeval, aintBin, bin_int, aload_bump, SS, reduceIte, reduceCtorEq, f16, f17, hd1]; first | done | exact rfl) ?_))
              exact ⟨rfl, hE8.trans (by repeat (first | exact Keeps.refl _ _ | (refine Keeps.bumpR ?_ _))), f1, f9, f13, f66, f67, f68, f16⟩
          · exact ⟨(by repeat (first | exact Keeps.refl _ _ | (refine Keeps.bumpR ?_ _))), 0, by omega, rfl, f1, f9, f13, f66, f67, f68, rfl, rfl, rfl⟩
          rintro e fr1 s9 ⟨hw9, hn9, rfl, hE9, f1, f9, f13, f66, f67, f68, f16⟩
          repeat (first | (refine aw_seq ?_) | (refine aw_reg0 (by simp only [SZ, Nat.reduceAdd]; exact rfl) ?_) | (refine aw_reg (by decide +kernel) (by simp only [SZ, Nat.reduceAdd]; exact rfl) ?_) | (refine aw_regS (by decide +kernel) (by simp only [SZ, Nat.reduceAdd]; exact rfl) ?_) | (refine arl_nil ?_) | (refine aw_skip ?_) | (refine aw_block ?_) | (refine aw_exit ?_) | (refine aw_ret ?_) | (refine arl_cons rfl rfl (by simp +decide only [aop, abuiltin, aeval, aintBin, bin_int, aload_bump, SS, reduceIte, reduceCtorEq, f13, f16, hwat, f68, hwk]; exact rfl) (by first | rfl | assumption) rfl ?_) | (refine arl_none rfl rfl (by simp +decide only [aop, abuiltin, aeval, aintBin, bin_int, aload_bump, SS, reduceIte, reduceCtorEq, f13, f16, hwat, f68, hwk]; exact rfl) rfl rfl ?_) | (refine arl_off rfl rfl ?_) | (refine aw_condT (by simp +decide only [aop, abuiltin, aeval, aintBin, bin_int, aload_bump, SS, reduceIte, reduceCtorEq, f13, f16, hwat, f68, hwk]; first | done | exact rfl) ?_) | (refine aw_condF (by simp +decide only [aop, abuiltin, aeval, aintBin, bin_int, aload_bump, SS, reduceIte, reduceCtorEq, f13, f16, hwat, f68, hwk]; first | done | exact rfl) ?_))
          refine ⟨ts.length - (k + 1), by omega, (hE.trans hE7).trans (hE9.trans (by repeat (first | exact Keeps.refl _ _ | (refine Keeps.bumpR ?_ _)))), k + 1, (carry o t (bnd most)).2, by omega, rfl, f1, f9, ?_, f66, f67, rfl, hpre2, hrn⟩
          show AV.pl _ = _
          rw [hol2]
        · have hd : decide ((k : Int) < (ts.length : Int)) = false := decide_eq_false (by omega)
          rw [List.drop_of_length_le (by omega), run] at hrn
          have hoo : o = out := congrArg Prod.snd hrn
          rw [hoo] at f13
          repeat (first | (refine aw_seq ?_) | (refine aw_reg0 (by simp only [SZ, Nat.reduceAdd]; exact rfl) ?_) | (refine aw_reg (by decide +kernel) (by simp only [SZ, Nat.reduceAdd]; exact rfl) ?_) | (refine aw_regS (by decide +kernel) (by simp only [SZ, Nat.reduceAdd]; exact rfl) ?_) | (refine arl_nil ?_) | (refine aw_skip ?_) | (refine aw_block ?_) | (refine aw_exit ?_) | (refine aw_ret ?_) | (refine arl_cons rfl rfl (by simp +decide only [aop, abuiltin, aeval, aintBin, bin_int, aload_bump, SS, reduceIte, reduceCtorEq, f67, f68, hd]; exact rfl) (by first | rfl | assumption) rfl ?_) | (refine arl_none rfl rfl (by simp +decide only [aop, abuiltin, aeval, aintBin, bin_int, aload_bump, SS, reduceIte, reduceCtorEq, f67, f68, hd]; exact rfl) rfl rfl ?_) | (refine arl_off rfl rfl ?_) | (refine aw_condT (by simp +decide only [aop, abuiltin, aeval, aintBin, bin_int, aload_bump, SS, reduceIte, reduceCtorEq, f67, f68, hd]; first | done | exact rfl) ?_) | (refine aw_condF (by simp +decide only [aop, abuiltin, aeval, aintBin, bin_int, aload_bump, SS, reduceIte, reduceCtorEq, f67, f68, hd]; first | done | exact rfl) ?_))
          exact ⟨rfl, hE.trans (by repeat (first | exact Keeps.refl _ _ | (refine Keeps.bumpR ?_ _))), f1, f9, f13⟩
      · refine ⟨(by repeat (first | exact Keeps.refl _ _ | (refine Keeps.bumpR ?_ _))), 0, [], by omega, rfl, rfl, rfl, rfl, rfl, rfl, rfl, List.nil_prefix, ?_⟩
        rw [List.drop_zero]
        exact hrun
      rintro e fr s6 ⟨hw6, hn6, rfl, hE6, f1, f9, f13⟩
      have hbq2 := beqT (a := (out.length : Int)) rfl
      by_cases h0 : out.length = 0
      · have z1 := beqT (a := (out.length : Int)) (b := 0) (by omega)
        repeat (first | (refine aw_seq ?_) | (refine aw_reg0 (by simp only [SZ, Nat.reduceAdd]; exact rfl) ?_) | (refine aw_reg (by decide +kernel) (by simp only [SZ, Nat.reduceAdd]; exact rfl) ?_) | (refine aw_regS (by decide +kernel) (by simp only [SZ, Nat.reduceAdd]; exact rfl) ?_) | (refine arl_nil ?_) | (refine aw_skip ?_) | (refine aw_block ?_) | (refine aw_exit ?_) | (refine aw_ret ?_) | (refine arl_cons rfl rfl (by simp +decide only [aop, abuiltin, aeval, aintBin, bin_int, aload_bump, SS, reduceIte, reduceCtorEq, f13, f9, hal, hbq2, z1]; exact rfl) (by first | rfl | assumption) rfl ?_) | (refine arl_none rfl rfl (by simp +decide only [aop, abuiltin, aeval, aintBin, bin_int, aload_bump, SS, reduceIte, reduceCtorEq, f13, f9, hal, hbq2, z1]; exact rfl) rfl rfl ?_) | (refine arl_off rfl rfl ?_) | (refine aw_condT (by simp +decide only [aop, abuiltin, aeval, aintBin, bin_int, aload_bump, SS, reduceIte, reduceCtorEq, f13, f9, hal, hbq2, z1]; first | done | exact rfl) ?_) | (refine aw_condF (by simp +decide only [aop, abuiltin, aeval, aintBin, bin_int, aload_bump, SS, reduceIte, reduceCtorEq, f13, f9, hal, hbq2, z1]; first | done | exact rfl) ?_))
        exact ⟨.inr rfl, _, rfl, rfl⟩
      · have z1 := beqF (a := (out.length : Int)) (b := 0) (by omega)
        have hbm : bnd most ≤ most ∨ bnd most ≤ 0 := by unfold bnd; split <;> (try split) <;> omega
        have z2 : decide ((out.length : Int) ≤ most) = true := decide_eq_true (by omega)
        have z3 : decide ((out.length : Int) ≤ 32768) = true := decide_eq_true (by omega)
        repeat (first | (refine aw_seq ?_) | (refine aw_reg0 (by simp only [SZ, Nat.reduceAdd]; exact rfl) ?_) | (refine aw_reg (by decide +kernel) (by simp only [SZ, Nat.reduceAdd]; exact rfl) ?_) | (refine aw_regS (by decide +kernel) (by simp only [SZ, Nat.reduceAdd]; exact rfl) ?_) | (refine arl_nil ?_) | (refine aw_skip ?_) | (refine aw_block ?_) | (refine aw_exit ?_) | (refine aw_ret ?_) | (refine arl_cons rfl rfl (by simp +decide only [aop, abuiltin, aeval, aintBin, bin_int, aload_bump, SS, reduceIte, reduceCtorEq, f13, f9, f1, hal, hbq2, z1, z2, z3]; exact rfl) (by first | rfl | assumption) rfl ?_) | (refine arl_none rfl rfl (by simp +decide only [aop, abuiltin, aeval, aintBin, bin_int, aload_bump, SS, reduceIte, reduceCtorEq, f13, f9, f1, hal, hbq2, z1, z2, z3]; exact rfl) rfl rfl ?_) | (refine arl_off rfl rfl ?_) | (refine aw_condT (by simp +decide only [aop, abuiltin, aeval, aintBin, bin_int, aload_bump, SS, reduceIte, reduceCtorEq, f13, f9, f1, hal, hbq2, z1, z2, z3]; first | done | exact rfl) ?_) | (refine aw_condF (by simp +decide only [aop, abuiltin, aeval, aintBin, bin_int, aload_bump, SS, reduceIte, reduceCtorEq, f13, f9, f1, hal, hbq2, z1, z2, z3]; first | done | exact rfl) ?_))
        exact ⟨.inr rfl, _, rfl, rfl⟩
    · have e2 := bne_t hre
      have hbad := run_bad most ts [] hre
      rw [hbad] at hA
      have hal := hA.rd.len
      repeat (first | (refine aw_seq ?_) | (refine aw_reg0 (by simp only [SZ, Nat.reduceAdd]; exact rfl) ?_) | (refine aw_reg (by decide +kernel) (by simp only [SZ, Nat.reduceAdd]; exact rfl) ?_) | (refine aw_regS (by decide +kernel) (by simp only [SZ, Nat.reduceAdd]; exact rfl) ?_) | (refine arl_nil ?_) | (refine aw_skip ?_) | (refine aw_block ?_) | (refine aw_exit ?_) | (refine aw_ret ?_) | (refine arl_cons rfl rfl (by simp +decide only [aop, abuiltin, aeval, aintBin, bin_int, aload_bump, SS, reduceIte, reduceCtorEq, e2, hal]; exact rfl) (by first | rfl | assumption) rfl ?_) | (refine arl_none rfl rfl (by simp +decide only [aop, abuiltin, aeval, aintBin, bin_int, aload_bump, SS, reduceIte, reduceCtorEq, e2, hal]; exact rfl) rfl rfl ?_) | (refine arl_off rfl rfl ?_) | (refine aw_condT (by simp +decide only [aop, abuiltin, aeval, aintBin, bin_int, aload_bump, SS, reduceIte, reduceCtorEq, e2, hal]; first | done | exact rfl) ?_) | (refine aw_condF (by simp +decide only [aop, abuiltin, aeval, aintBin, bin_int, aload_bump, SS, reduceIte, reduceCtorEq, e2, hal]; first | done | exact rfl) ?_))
      exact ⟨.inr rfl, _, rfl, rfl⟩
  · have e1 := bne_t he
    have hx1 := hp1 he
    have hbad := expd_bad most _ _ _ hx1
    repeat (first | (refine aw_seq ?_) | (refine aw_reg0 (by simp only [SZ, Nat.reduceAdd]; exact rfl) ?_) | (refine aw_reg (by decide +kernel) (by simp only [SZ, Nat.reduceAdd]; exact rfl) ?_) | (refine aw_regS (by decide +kernel) (by simp only [SZ, Nat.reduceAdd]; exact rfl) ?_) | (refine arl_nil ?_) | (refine aw_skip ?_) | (refine aw_block ?_) | (refine aw_exit ?_) | (refine aw_ret ?_) | (refine arl_cons rfl rfl (by simp +decide only [aop, abuiltin, aeval, aintBin, bin_int, aload_bump, SS, reduceIte, reduceCtorEq, e1]; exact rfl) (by first | rfl | assumption) rfl ?_) | (refine arl_none rfl rfl (by simp +decide only [aop, abuiltin, aeval, aintBin, bin_int, aload_bump, SS, reduceIte, reduceCtorEq, e1]; exact rfl) rfl rfl ?_) | (refine arl_off rfl rfl ?_) | (refine aw_condT (by simp +decide only [aop, abuiltin, aeval, aintBin, bin_int, aload_bump, SS, reduceIte, reduceCtorEq, e1]; first | done | exact rfl) ?_) | (refine aw_condF (by simp +decide only [aop, abuiltin, aeval, aintBin, bin_int, aload_bump, SS, reduceIte, reduceCtorEq, e1]; first | done | exact rfl) ?_))
    refine arl_call rfl rfl rfl rfl rfl rfl ((expand_ok (by repeat (first | assumption | (refine WF.bump ?_ _))) most ((hb.up hS2).up (by repeat (first | exact Keeps.refl _ _ | (refine Keeps.bumpR ?_ _)))) (by omega) hby).wf (by repeat (first | assumption | (refine WF.bump ?_ _) | (refine WF.put ?_ (by simp only [n_bump, n_put, n_touch, n_kill] at *; omega) (by simp only [n_bump, n_put, n_touch, n_kill] at *; omega)))) |>.mono ?_)
    rintro r s3 ⟨hw3, hn3, hE3, a, rfl, has, hA⟩
    refine ⟨by first | rfl | assumption, ?_⟩
    replace hE3 : Ext s2 s3 := Keeps.trans (by repeat (first | assumption | exact Keeps.refl _ _ | (refine Keeps.bumpR ?_ _) | (refine Keeps.put ?_ (by assumption) (by simp only [n_bump, n_put, n_touch, n_kill] at *; omega)))) hE3
    have hN3 := hE3.n
    rw [hbad] at hA
    have hal := hA.rd.len
    have e2 := bne_t hx1
    repeat (first | (refine aw_seq ?_) | (refine aw_reg0 (by simp only [SZ, Nat.reduceAdd]; exact rfl) ?_) | (refine aw_reg (by decide +kernel) (by simp only [SZ, Nat.reduceAdd]; exact rfl) ?_) | (refine aw_regS (by decide +kernel) (by simp only [SZ, Nat.reduceAdd]; exact rfl) ?_) | (refine arl_nil ?_) | (refine aw_skip ?_) | (refine aw_block ?_) | (refine aw_exit ?_) | (refine aw_ret ?_) | (refine arl_cons rfl rfl (by simp +decide only [aop, abuiltin, aeval, aintBin, bin_int, aload_bump, SS, reduceIte, reduceCtorEq, e2, hal]; exact rfl) (by first | rfl | assumption) rfl ?_) | (refine arl_none rfl rfl (by simp +decide only [aop, abuiltin, aeval, aintBin, bin_int, aload_bump, SS, reduceIte, reduceCtorEq, e2, hal]; exact rfl) rfl rfl ?_) | (refine arl_off rfl rfl ?_) | (refine aw_condT (by simp +decide only [aop, abuiltin, aeval, aintBin, bin_int, aload_bump, SS, reduceIte, reduceCtorEq, e2, hal]; first | done | exact rfl) ?_) | (refine aw_condF (by simp +decide only [aop, abuiltin, aeval, aintBin, bin_int, aload_bump, SS, reduceIte, reduceCtorEq, e2, hal]; first | done | exact rfl) ?_))
    exact ⟨.inr rfl, _, rfl, rfl⟩
theorem TokenMakes_small {st : St} (hw : WF st) {v : AV} {b : List Int} (h : RdL st (fun _ => True) 1 (fun cs n => cs = [.pl (.int .u8 n)]) v b) (g : ∀ x ∈ b, (Lit.int .u8 x).wf = true) (most : Int) (gm : (Lit.int .i64 most).wf = true) (hb : (b.map fun _ => 1).sum + 1 + 1 ≤ 1048576) :
    ACalls Try.prog 8 [v, i64 most] st (fun r s => r = .pl (.bool true)) := by
  rw [sum_1] at hb
  exact makes_ok hw most (RdL.bytes h) (by omega) (fun x hx => wfu8 (g x hx))
end Go.Proofs.Ytjgdagiffmpkhaa.Ra
