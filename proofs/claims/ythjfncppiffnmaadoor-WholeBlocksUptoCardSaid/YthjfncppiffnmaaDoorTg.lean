/- Expand, in both texts. -/
import Derived.Test.YthjfncppiffnmaaDoorTf
namespace Go.Proofs.YthjfncppiffnmaaDoor.Ra
open Go Go.RowKit
set_option linter.unusedVariables false
set_option linter.unusedSimpArgs false
set_option maxRecDepth 10000
theorem one_len {b : List Int} (h : (one b).1 = 0) (hby : ∀ x ∈ b, 0 ≤ x ∧ x < 256) : 2 ≤ (one b).2.2 ∧ (one b).2.2 ≤ b.length ∧ (one b).2.1.1.length ≤ 128 := by
  unfold one at h ⊢
  have hc : 0 ≤ b.getD 0 0 := by
    rw [List.getD_eq_getElem?_getD]
    cases hb : b[0]? with
    | none => simp
    | some x => simp; exact (hby x (List.mem_of_getElem? hb)).1
  split
  · rename_i h1
    rw [if_pos h1] at h
    split
    · rename_i h2; rw [if_pos h2] at h; cases h
    · simp only [List.length_take, List.length_drop]; omega
  · rename_i h1
    rw [if_neg h1] at h
    split
    · rename_i h2; rw [if_pos h2] at h; cases h
    · rename_i h2
      rw [if_neg h2] at h
      split
      · rename_i h3; rw [if_pos h3] at h; cases h
      · simp only [List.length_nil]; omega
/-- What written tokens make, f rounds at most. -/
def expd (most : Int) : Nat → List Int → List Int → Int × List Int
  | 0, _, out => (0, out)
  | f + 1, b, out => if b = [] then (0, out) else if (one b).1 ≠ 0 then ((one b).1, []) else
      if (carry out (one b).2.1 (bnd most)).1 ≠ 0 then ((carry out (one b).2.1 (bnd most)).1, []) else expd most f (b.drop (one b).2.2) (carry out (one b).2.1 (bnd most)).2
/-- Enough rounds are enough. -/
theorem expd_more (most : Int) : ∀ (f : Nat) (b out : List Int), (∀ x ∈ b, 0 ≤ x ∧ x < 256) → b.length ≤ f → expd most f b out = expd most b.length b out := by
  intro f
  induction f using Nat.strongRecOn with
  | _ f ih =>
    intro b out hby hf
    cases f with
    | zero =>
      have : b = [] := List.eq_nil_of_length_eq_zero (by omega)
      subst this
      rfl
    | succ f =>
      cases hb : b with
      | nil => rfl
      | cons x r =>
        rw [← hb]
        have hl : b.length = r.length + 1 := by rw [hb]; rfl
        rw [hl]
        simp only [expd]
        have hne : b ≠ [] := by rw [hb]; simp
        rw [if_neg hne, if_neg hne]
        by_cases h1 : (one b).1 ≠ 0
        · rw [if_pos h1, if_pos h1]
        · rw [if_neg h1, if_neg h1]
          by_cases h2 : (carry out (one b).2.1 (bnd most)).1 ≠ 0
          · rw [if_pos h2, if_pos h2]
          · rw [if_neg h2, if_neg h2]
            obtain ⟨k1, k2, k3⟩ := one_len (by simpa using h1) hby
            have hby' : ∀ x ∈ b.drop (one b).2.2, 0 ≤ x ∧ x < 256 := fun x hx => hby x (List.mem_of_mem_drop hx)
            have hdl : (b.drop (one b).2.2).length = b.length - (one b).2.2 := List.length_drop
            by_cases hrf : r.length < f + 1
            · rw [ih f (by omega) _ _ hby' (by omega), ih r.length (by omega) _ _ hby' (by omega)]
            · omega
theorem expd_step (most : Int) (b out : List Int) (hby : ∀ x ∈ b, 0 ≤ x ∧ x < 256) (hne : b ≠ []) : expd most b.length b out = if (one b).1 ≠ 0 then ((one b).1, []) else
      if (carry out (one b).2.1 (bnd most)).1 ≠ 0 then ((carry out (one b).2.1 (bnd most)).1, []) else expd most (b.drop (one b).2.2).length (b.drop (one b).2.2) (carry out (one b).2.1 (bnd most)).2 := by
  cases hb : b with
  | nil => exact absurd hb hne
  | cons x r =>
    rw [← hb]
    have hl : b.length = r.length + 1 := by rw [hb]; rfl
    conv => lhs; rw [hl]
    simp only [expd]
    rw [if_neg hne]
    by_cases h1 : (one b).1 ≠ 0
    · rw [if_pos h1, if_pos h1]
    · rw [if_neg h1, if_neg h1]
      obtain ⟨k1, k2, k3⟩ := one_len (by simpa using h1) hby
      rw [expd_more most r.length _ _ (fun x hx => hby x (List.mem_of_mem_drop hx)) (by rw [List.length_drop]; omega)]
theorem expand_ok {st : St} (hw : WF st) {K : Nat → Prop} {v : AV} {b : List Int} (most : Int) (h : RdB st K v b) (hl : b.length ≤ 140737488355327) (hby : ∀ x ∈ b, 0 ≤ x ∧ x < 256) :
    ACalls Tryd.prog 25 [v, i64 most] st (ByQ st (expd most b.length b [])) := by
  replace h := h.lt hw
  have hvs := h.solid
  refine acalls_of Tryd.func25 rfl (by kernel_rfl) (by simp [hvs]; rfl) ?_
  repeat (first | (refine aw_seq ?_) | (refine aw_reg0 (by simp only [SZ, Nat.reduceAdd]; exact rfl) ?_) | (refine aw_reg (by decide +kernel) (by simp only [SZ, Nat.reduceAdd]; exact rfl) ?_) | (refine aw_regS (by decide +kernel) (by simp only [SZ, Nat.reduceAdd]; exact rfl) ?_) | (refine arl_nil ?_) | (refine aw_skip ?_) | (refine aw_block ?_) | (refine aw_exit ?_) | (refine aw_ret ?_) | (refine arl_cons rfl rfl (by simp +decide only [aop, abuiltin, aeval, aintBin, bin_int, aload_bump, SS, reduceIte, reduceCtorEq, lit0]; exact rfl) (by first | rfl | with_reducible assumption) rfl ?_) | (refine arl_none rfl rfl (by simp +decide only [aop, abuiltin, aeval, aintBin, bin_int, aload_bump, SS, reduceIte, reduceCtorEq, lit0]; exact rfl) rfl rfl ?_) | (refine arl_off rfl rfl ?_) | (refine aw_condT (by simp +decide only [aop, abuiltin, aeval, aintBin, bin_int, aload_bump, SS, reduceIte, reduceCtorEq, lit0]; first | done | exact rfl) ?_) | (refine aw_condF (by simp +decide only [aop, abuiltin, aeval, aintBin, bin_int, aload_bump, SS, reduceIte, reduceCtorEq, lit0]; first | done | exact rfl) ?_))
  refine aw_rounds_wf (fun m fr s => Ext st s ∧ ∃ (k : Nat) (out : List Int), k ≤ b.length ∧ m = b.length - k ∧ fr 1 = i64 most ∧ RdB s (fun g => True ∧ g < st.n) (fr 0) (b.drop k) ∧ out.length ≤ 32768 ∧ expd most b.length b [] = expd most (b.drop k).length (b.drop k) out ∧ OwB s (fun g => st.n ≤ g) (fr 6) out) ?_ b.length _ _ (by repeat (first | assumption | (refine WF.bump ?_ _) | (refine WF.put ?_ (by simp only [n_bump, n_put, n_touch, n_kill] at *; omega) (by simp only [n_bump, n_put, n_touch, n_kill] at *; omega)))) ?_
  · rintro m fr s hws ⟨hE, k, out, hk, rfl, f1, hR, hol, hrun, hO⟩
    have hEn := hE.n
    have hos := hO.solid
    have hrs := hR.solid
    have hln := hR.len
    have hbk : ∀ x ∈ b.drop k, 0 ≤ x ∧ x < 256 := fun x hx => hby x (List.mem_of_mem_drop hx)
    have hdl : (b.drop k).length = b.length - k := List.length_drop
    generalize hbb : b.drop k = bb at hR hln hrun hbk hdl
    by_cases hlt : 0 < bb.length
    · have hd : decide ((bb.length : Int) > 0) = true := decide_eq_true (by omega)
      have hne : bb ≠ [] := fun e => by rw [e] at hlt; simp at hlt
      rw [expd_step most bb out hbk hne] at hrun
      repeat (first | (refine aw_seq ?_) | (refine aw_reg0 (by simp only [SZ, Nat.reduceAdd]; exact rfl) ?_) | (refine aw_reg (by decide +kernel) (by simp only [SZ, Nat.reduceAdd]; exact rfl) ?_) | (refine aw_regS (by decide +kernel) (by simp only [SZ, Nat.reduceAdd]; exact rfl) ?_) | (refine arl_nil ?_) | (refine aw_skip ?_) | (refine aw_block ?_) | (refine aw_exit ?_) | (refine aw_ret ?_) | (refine arl_cons rfl rfl (by simp +decide only [aop, abuiltin, aeval, aintBin, bin_int, aload_bump, SS, reduceIte, reduceCtorEq, hln, hd]; exact rfl) (by first | rfl | with_reducible assumption) rfl ?_) | (refine arl_none rfl rfl (by simp +decide only [aop, abuiltin, aeval, aintBin, bin_int, aload_bump, SS, reduceIte, reduceCtorEq, hln, hd]; exact rfl) rfl rfl ?_) | (refine arl_off rfl rfl ?_) | (refine aw_condT (by simp +decide only [aop, abuiltin, aeval, aintBin, bin_int, aload_bump, SS, reduceIte, reduceCtorEq, hln, hd]; first | done | exact rfl) ?_) | (refine aw_condF (by simp +decide only [aop, abuiltin, aeval, aintBin, bin_int, aload_bump, SS, reduceIte, reduceCtorEq, hln, hd]; first | done | exact rfl) ?_))
      refine arl_call rfl rfl rfl rfl rfl rfl ((one_ok (by repeat (first | assumption | (refine WF.bump ?_ _))) (hR.up (by repeat (first | exact Keeps.refl _ _ | (refine Keeps.bumpR ?_ _)))) (by omega) (by omega) hbk).dead.wf (by repeat (first | assumption | (refine WF.bump ?_ _) | (refine WF.put ?_ (by simp only [n_bump, n_put, n_touch, n_kill] at *; omega) (by simp only [n_bump, n_put, n_touch, n_kill] at *; omega)))) |>.mono ?_)
      rintro r s1 ⟨hw1, hn1, hd1, hE1, c, rfl, hC⟩
      refine ⟨rfl, ?_⟩
      have hcs := hC.solid
      replace hE1 : Ext s s1 := Keeps.trans (show Ext s _ from (by repeat (first | exact Keeps.refl _ _ | (refine Keeps.bumpR ?_ _)))) hE1
      have hN1 := hE1.n
      have hnn1 := hn1
      simp only [n_bump] at hnn1
      refine arl_cons rfl rfl (by simp +decide only [aop, abuiltin, aeval, aintBin, bin_int, aload_bump, SS, reduceIte, reduceCtorEq]; exact rfl) (by first | rfl | with_reducible assumption) rfl ?_
      refine arl_cons rfl rfl (by simp +decide only [aop, abuiltin, aeval, aintBin, bin_int, aload_bump, SS, reduceIte, reduceCtorEq]; exact rfl) (by first | rfl | with_reducible assumption) rfl ?_
      refine arl_cons rfl rfl (by simp +decide only [aop, abuiltin, aeval, aintBin, bin_int, aload_bump, SS, reduceIte, reduceCtorEq]; exact rfl) (by first | rfl | with_reducible assumption) rfl ?_
      refine arl_cons rfl rfl (by simp +decide only [aop, abuiltin, aeval, aintBin, bin_int, aload_bump, SS, reduceIte, reduceCtorEq]; exact rfl) (by first | rfl | with_reducible assumption) rfl ?_
      refine arl_alloc rfl rfl rfl szTK zTK (hd1 _ (by first | omega | (simp only [n_bump, n_put]; omega) | (simp only [n_bump, n_put] at *; omega)) (fresh hws (by first | omega | (simp only [n_bump, n_put]; omega) | (simp only [n_bump, n_put] at *; omega)))) ?_
      intro s2 hn2 hwf2 hE2 hg2 hD2
      have hw2 : WF s2 := hwf2 hw1 (by first | omega | (simp only [n_bump, n_put]; omega) | (simp only [n_bump, n_put] at *; omega))
      refine arl_storeW (e := TK) (cs := [c, i64 (one bb).2.1.2.1, i64 (one bb).2.1.2.2]) rfl rfl rfl rfl rfl hg2 szTK rfl rfl rfl (by simp [hC.cell.2]; exact ⟨rfl, rfl⟩) rfl ?_
      intro s3 hn3 hwf3 hE3 hg3 hD3
      have hw3 : WF s3 := hwf3 hw2
      have hE3' := hE3
      replace hE3 : Ext s s3 := Keeps.call (hE1.trans hE2) hE3 hws (by simp only [n_bump]; intro g h; right; omega)
      have hN3 := hE3.n
      have q3 := (tkLd hg3).2.2.2
      have hC3 := ((hC.mono (K' := fun g => g < st.n) (fun g h => h.2)).up hE2).keep hE3' (fun g h h' => by simp only [n_bump] at h'; omega)
      by_cases he : (one bb).1 = 0
      · obtain ⟨k1, k2, k3⟩ := one_len he hbk
        rw [if_neg (by simp [he])] at hrun
        have hbq : ((one bb).1 != 0) = false := bne_f he
        have hb := bnd_range most
        repeat (first | (refine aw_seq ?_) | (refine aw_reg0 (by simp only [SZ, Nat.reduceAdd]; exact rfl) ?_) | (refine aw_reg (by decide +kernel) (by simp only [SZ, Nat.reduceAdd]; exact rfl) ?_) | (refine aw_regS (by decide +kernel) (by simp only [SZ, Nat.reduceAdd]; exact rfl) ?_) | (refine arl_nil ?_) | (refine aw_skip ?_) | (refine aw_block ?_) | (refine aw_exit ?_) | (refine aw_ret ?_) | (refine arl_cons rfl rfl (by simp +decide only [aop, abuiltin, aeval, aintBin, bin_int, aload_bump, SS, reduceIte, reduceCtorEq, hbq, q3, f1]; exact rfl) (by first | rfl | with_reducible assumption) rfl ?_) | (refine arl_none rfl rfl (by simp +decide only [aop, abuiltin, aeval, aintBin, bin_int, aload_bump, SS, reduceIte, reduceCtorEq, hbq, q3, f1]; exact rfl) rfl rfl ?_) | (refine arl_off rfl rfl ?_) | (refine aw_condT (by simp +decide only [aop, abuiltin, aeval, aintBin, bin_int, aload_bump, SS, reduceIte, reduceCtorEq, hbq, q3, f1]; first | done | exact rfl) ?_) | (refine aw_condF (by simp +decide only [aop, abuiltin, aeval, aintBin, bin_int, aload_bump, SS, reduceIte, reduceCtorEq, hbq, q3, f1]; first | done | exact rfl) ?_))
        refine arl_callS rfl rfl rfl rfl rfl rfl ((bound_ok most).wf (by repeat (first | assumption | (refine WF.bump ?_ _) | (refine WF.put ?_ (by simp only [n_bump, n_put, n_touch, n_kill] at *; omega) (by simp only [n_bump, n_put, n_touch, n_kill] at *; omega)))) |>.mono ?_)
        rintro r s4 ⟨hw4, hn4, hE4, rfl⟩
        refine ⟨hE4, by first | rfl | with_reducible assumption, ?_⟩
        replace hE4 : Ext s3 s4 := Keeps.trans (by repeat (first | assumption | exact Keeps.refl _ _ | (refine Keeps.bumpR ?_ _) | (refine Keeps.put ?_ (by assumption) (by simp only [n_bump, n_put, n_touch, n_kill] at *; omega)))) hE4
        have hN4 := hE4.n
        repeat (first | (refine aw_seq ?_) | (refine aw_reg0 (by simp only [SZ, Nat.reduceAdd]; exact rfl) ?_) | (refine aw_reg (by decide +kernel) (by simp only [SZ, Nat.reduceAdd]; exact rfl) ?_) | (refine aw_regS (by decide +kernel) (by simp only [SZ, Nat.reduceAdd]; exact rfl) ?_) | (refine arl_nil ?_) | (refine aw_skip ?_) | (refine aw_block ?_) | (refine aw_exit ?_) | (refine aw_ret ?_) | (refine arl_cons rfl rfl (by simp +decide only [aop, abuiltin, aeval, aintBin, bin_int, aload_bump, SS, reduceIte, reduceCtorEq]; exact rfl) (by first | rfl | with_reducible assumption) rfl ?_) | (refine arl_none rfl rfl (by simp +decide only [aop, abuiltin, aeval, aintBin, bin_int, aload_bump, SS, reduceIte, reduceCtorEq]; exact rfl) rfl rfl ?_) | (refine arl_off rfl rfl ?_) | (refine aw_condT (by simp +decide only [aop, abuiltin, aeval, aintBin, bin_int, aload_bump, SS, reduceIte, reduceCtorEq]; first | done | exact rfl) ?_) | (refine aw_condF (by simp +decide only [aop, abuiltin, aeval, aintBin, bin_int, aload_bump, SS, reduceIte, reduceCtorEq]; first | done | exact rfl) ?_))
        refine arl_callN (by decide +kernel) rfl rfl rfl rfl rfl rfl ((carry_ok (by repeat (first | assumption | (refine WF.bump ?_ _))) (K := fun g => st.n ≤ g) (one bb).2.1 ((hO.up (hE3.trans hE4)).up (by repeat (first | exact Keeps.refl _ _ | (refine Keeps.bumpR ?_ _)))) ((hC3.up hE4).up (by repeat (first | exact Keeps.refl _ _ | (refine Keeps.bumpR ?_ _)))) (by intro g h; omega) (bnd most) (by omega) (by omega) (by omega)).wf (by repeat (first | assumption | (refine WF.bump ?_ _) | (refine WF.put ?_ (by simp only [n_bump, n_put, n_touch, n_kill] at *; omega) (by simp only [n_bump, n_put, n_touch, n_kill] at *; omega)))) |>.mono ?_)
        rintro r s5 ⟨hw5, hn5, hE5, x, rfl, hxs, hX⟩
        refine ⟨rfl, ?_⟩
        have hS5 : Ext st s5 := Keeps.call (hE.trans ((hE3.trans hE4).trans (by repeat (first | exact Keeps.refl _ _ | (refine Keeps.bumpR ?_ _))))) hE5 hw (fun g h => .inr h)
        have hS5' : Keeps (fun g => st.n ≤ g) s s5 := ((hE3.trans hE4).mono (fun _ h => h.elim)).trans ((Keeps.mono (G := fun _ => False) (show Ext s4 _ from (by repeat (first | exact Keeps.refl _ _ | (refine Keeps.bumpR ?_ _)))) (fun _ h => h.elim)).trans hE5)
        by_cases he2 : (carry out (one bb).2.1 (bnd most)).1 = 0
        · rw [if_neg (by simp [he2])] at hrun
          have hbq2 : ((carry out (one bb).2.1 (bnd most)).1 != 0) = false := bne_f he2
          have hcl := carry_len he2
          obtain ⟨u, hcut, hus, hU⟩ := (hR.keep hS5' (fun g h h' => by have := h.2; omega)).cuts (some (i64 ((one bb).2.2 : Nat))) none (one bb).2.2 bb.length (.inl rfl) (.inr ⟨rfl, rfl⟩) k2 (Nat.le_refl _)
          rw [List.take_of_length_le (by rw [List.length_drop]; exact Nat.le_refl _)] at hU
          repeat (first | (refine aw_seq ?_) | (refine aw_reg0 (by simp only [SZ, Nat.reduceAdd]; exact rfl) ?_) | (refine aw_reg (by decide +kernel) (by simp only [SZ, Nat.reduceAdd]; exact rfl) ?_) | (refine aw_regS (by decide +kernel) (by simp only [SZ, Nat.reduceAdd]; exact rfl) ?_) | (refine arl_nil ?_) | (refine aw_skip ?_) | (refine aw_block ?_) | (refine aw_exit ?_) | (refine aw_ret ?_) | (refine arl_cons rfl rfl (by simp +decide only [aop, abuiltin, aeval, aintBin, bin_int, aload_bump, SS, reduceIte, reduceCtorEq, hbq2, hcut]; exact rfl) (by first | rfl | with_reducible assumption) rfl ?_) | (refine arl_none rfl rfl (by simp +decide only [aop, abuiltin, aeval, aintBin, bin_int, aload_bump, SS, reduceIte, reduceCtorEq, hbq2, hcut]; exact rfl) rfl rfl ?_) | (refine arl_off rfl rfl ?_) | (refine aw_condT (by simp +decide only [aop, abuiltin, aeval, aintBin, bin_int, aload_bump, SS, reduceIte, reduceCtorEq, hbq2, hcut]; first | done | exact rfl) ?_) | (refine aw_condF (by simp +decide only [aop, abuiltin, aeval, aintBin, bin_int, aload_bump, SS, reduceIte, reduceCtorEq, hbq2, hcut]; first | done | exact rfl) ?_))
          refine ⟨b.length - (k + (one bb).2.2), by omega, hS5.trans (by repeat (first | exact Keeps.refl _ _ | (refine Keeps.bumpR ?_ _))), k + (one bb).2.2, (carry out (one bb).2.1 (bnd most)).2, by omega, rfl, f1, ?_, by omega, ?_, (hX.mono (fun g h => h.elim id (fun h => by simp only [n_bump] at *; omega))).up (by repeat (first | exact Keeps.refl _ _ | (refine Keeps.bumpR ?_ _)))⟩
          · rw [← List.drop_drop, hbb]
            exact hU.up (by repeat (first | exact Keeps.refl _ _ | (refine Keeps.bumpR ?_ _)))
          · rw [hrun, ← List.drop_drop, hbb]
        · rw [if_pos he2] at hrun
          have hbq2 : ((carry out (one bb).2.1 (bnd most)).1 != 0) = true := bne_t he2
          repeat (first | (refine aw_seq ?_) | (refine aw_reg0 (by simp only [SZ, Nat.reduceAdd]; exact rfl) ?_) | (refine aw_reg (by decide +kernel) (by simp only [SZ, Nat.reduceAdd]; exact rfl) ?_) | (refine aw_regS (by decide +kernel) (by simp only [SZ, Nat.reduceAdd]; exact rfl) ?_) | (refine arl_nil ?_) | (refine aw_skip ?_) | (refine aw_block ?_) | (refine aw_exit ?_) | (refine aw_ret ?_) | (refine arl_cons rfl rfl (by simp +decide only [aop, abuiltin, aeval, aintBin, bin_int, aload_bump, SS, reduceIte, reduceCtorEq, hbq2]; exact rfl) (by first | rfl | with_reducible assumption) rfl ?_) | (refine arl_none rfl rfl (by simp +decide only [aop, abuiltin, aeval, aintBin, bin_int, aload_bump, SS, reduceIte, reduceCtorEq, hbq2]; exact rfl) rfl rfl ?_) | (refine arl_off rfl rfl ?_) | (refine aw_condT (by simp +decide only [aop, abuiltin, aeval, aintBin, bin_int, aload_bump, SS, reduceIte, reduceCtorEq, hbq2]; first | done | exact rfl) ?_) | (refine aw_condF (by simp +decide only [aop, abuiltin, aeval, aintBin, bin_int, aload_bump, SS, reduceIte, reduceCtorEq, hbq2]; first | done | exact rfl) ?_))
          exact ⟨.inr rfl, _, rfl, ByQ.bad (hS5.trans (by repeat (first | exact Keeps.refl _ _ | (refine Keeps.bumpR ?_ _)))) hrun⟩
      · rw [if_pos he] at hrun
        have hbq : ((one bb).1 != 0) = true := bne_t he
        repeat (first | (refine aw_seq ?_) | (refine aw_reg0 (by simp only [SZ, Nat.reduceAdd]; exact rfl) ?_) | (refine aw_reg (by decide +kernel) (by simp only [SZ, Nat.reduceAdd]; exact rfl) ?_) | (refine aw_regS (by decide +kernel) (by simp only [SZ, Nat.reduceAdd]; exact rfl) ?_) | (refine arl_nil ?_) | (refine aw_skip ?_) | (refine aw_block ?_) | (refine aw_exit ?_) | (refine aw_ret ?_) | (refine arl_cons rfl rfl (by simp +decide only [aop, abuiltin, aeval, aintBin, bin_int, aload_bump, SS, reduceIte, reduceCtorEq, hbq]; exact rfl) (by first | rfl | with_reducible assumption) rfl ?_) | (refine arl_none rfl rfl (by simp +decide only [aop, abuiltin, aeval, aintBin, bin_int, aload_bump, SS, reduceIte, reduceCtorEq, hbq]; exact rfl) rfl rfl ?_) | (refine arl_off rfl rfl ?_) | (refine aw_condT (by simp +decide only [aop, abuiltin, aeval, aintBin, bin_int, aload_bump, SS, reduceIte, reduceCtorEq, hbq]; first | done | exact rfl) ?_) | (refine aw_condF (by simp +decide only [aop, abuiltin, aeval, aintBin, bin_int, aload_bump, SS, reduceIte, reduceCtorEq, hbq]; first | done | exact rfl) ?_))
        exact ⟨.inr rfl, _, rfl, ByQ.bad ((hE.trans hE3).trans (by repeat (first | exact Keeps.refl _ _ | (refine Keeps.bumpR ?_ _)))) hrun⟩
    · have hd : decide ((bb.length : Int) > 0) = false := decide_eq_false (by omega)
      have hnil : bb = [] := List.eq_nil_of_length_eq_zero (by omega)
      rw [hnil] at hrun
      repeat (first | (refine aw_seq ?_) | (refine aw_reg0 (by simp only [SZ, Nat.reduceAdd]; exact rfl) ?_) | (refine aw_reg (by decide +kernel) (by simp only [SZ, Nat.reduceAdd]; exact rfl) ?_) | (refine aw_regS (by decide +kernel) (by simp only [SZ, Nat.reduceAdd]; exact rfl) ?_) | (refine arl_nil ?_) | (refine aw_skip ?_) | (refine aw_block ?_) | (refine aw_exit ?_) | (refine aw_ret ?_) | (refine arl_cons rfl rfl (by simp +decide only [aop, abuiltin, aeval, aintBin, bin_int, aload_bump, SS, reduceIte, reduceCtorEq, hln, hd]; exact rfl) (by first | rfl | with_reducible assumption) rfl ?_) | (refine arl_none rfl rfl (by simp +decide only [aop, abuiltin, aeval, aintBin, bin_int, aload_bump, SS, reduceIte, reduceCtorEq, hln, hd]; exact rfl) rfl rfl ?_) | (refine arl_off rfl rfl ?_) | (refine aw_condT (by simp +decide only [aop, abuiltin, aeval, aintBin, bin_int, aload_bump, SS, reduceIte, reduceCtorEq, hln, hd]; first | done | exact rfl) ?_) | (refine aw_condF (by simp +decide only [aop, abuiltin, aeval, aintBin, bin_int, aload_bump, SS, reduceIte, reduceCtorEq, hln, hd]; first | done | exact rfl) ?_))
      refine ⟨.inr rfl, _, rfl, hE.trans (by repeat (first | exact Keeps.refl _ _ | (refine Keeps.bumpR ?_ _))), fr 6, by rw [hrun]; rfl, hos, ?_⟩
      rw [hrun]
      exact hO.up (by repeat (first | exact Keeps.refl _ _ | (refine Keeps.bumpR ?_ _)))
  · refine ⟨(by repeat (first | assumption | exact Keeps.refl _ _ | (refine Keeps.bumpR ?_ _) | (refine Keeps.put ?_ (by assumption) (by simp only [n_bump, n_put, n_touch, n_kill] at *; omega)))), 0, [], by omega, rfl, rfl, ?_, by simp, rfl, .inr ⟨_, _, rfl, get_put _ _, (by simp only [n_bump, n_put, n_touch, n_kill] at *; omega)⟩⟩
    exact (h.mono (fun g h => ⟨trivial, h.2⟩)).up (by repeat (first | assumption | exact Keeps.refl _ _ | (refine Keeps.bumpR ?_ _) | (refine Keeps.put ?_ (by assumption) (by simp only [n_bump, n_put, n_touch, n_kill] at *; omega))))
end Go.Proofs.YthjfncppiffnmaaDoor.Ra
