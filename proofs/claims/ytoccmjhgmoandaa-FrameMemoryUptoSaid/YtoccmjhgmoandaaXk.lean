/- leatlaw17.FrameFeeds. -/
import Derived.Test.YtoccmjhgmoandaaXj
namespace Go.Proofs.Ytoccmjhgmoandaa.Ra
open Go Go.RowKit
set_option linter.unusedVariables false
set_option linter.unusedSimpArgs false
set_option maxRecDepth 10000
theorem flatF_succ (ps : List (List Int)) (k : Nat) (h : k < ps.length) : (ps.take (k + 1)).flatten = (ps.take k).flatten ++ ps[k] := by
  rw [List.take_succ_eq_append_getElem h, List.flatten_append, List.flatten_singleton]
theorem flatF_le (ps : List (List Int)) (k : Nat) : ((ps.take k).flatten).length ≤ ps.flatten.length := by
  have : ps.flatten = (ps.take k).flatten ++ (ps.drop k).flatten := by rw [← List.flatten_append, List.take_append_drop]
  rw [this, List.length_append]
  omega
theorem cut_lens (M : Int) (b : List Int) : 4 * (cutS M b).1.length ≤ b.length ∧ (∀ f ∈ (cutS M b).1, f.length ≤ b.length) := by
  obtain ⟨k1, k2, k3, k4, k5, kk, k6⟩ := cutS_ok M b.length b (Nat.le_refl _)
  have h1 : ∀ l : List (List Int), 4 * l.length ≤ (l.map fun f => f.length + 4).sum ∧ ∀ f ∈ l, f.length ≤ (l.map fun f => f.length + 4).sum := by
    intro l
    induction l with
    | nil => simp
    | cons x l ih =>
      refine ⟨by simp; omega, fun f hf => ?_⟩
      rcases List.mem_cons.1 hf with rfl | hf
      · simp; omega
      · have := ih.2 f hf; simp; omega
  have := h1 (cutS M b).1
  exact ⟨by omega, fun f hf => by have := this.2 f hf; omega⟩
set_option maxHeartbeats 8000000 in
theorem feeds_ok {st : St} (hw : WF st) {v : AV} {ps : List (List Int)} (most : Int) (h : RdE rowK st (fun _ => True) v ps) (hl : ps.flatten.length + ps.length ≤ 1048576) (hby : ∀ p ∈ ps, ∀ x ∈ p, 0 ≤ x ∧ x < 256) :
    ACalls Try.prog 3 [i64 most, v] st (fun r s => r = .pl (.bool true)) := by
  replace h := RdE.lt hw h
  have hvs := h.solid
  have hln := RdE.len h TRr
  have hM := bndF_in most
  refine acalls_of Try.func3 rfl (by kernel_rfl) (by simp [hvs]; rfl) ?_
  repeat (first | (refine aw_seq ?_) | (refine aw_reg0 (by simp only [SZ, Nat.reduceAdd]; exact rfl) ?_) | (refine aw_reg (by decide +kernel) (by simp only [SZ, Nat.reduceAdd]; exact rfl) ?_) | (refine aw_regS (by decide +kernel) (by simp only [SZ, Nat.reduceAdd]; exact rfl) ?_) | (refine arl_nil ?_) | (refine aw_skip ?_) | (refine aw_block ?_) | (refine aw_exit ?_) | (refine aw_ret ?_) | (refine arl_cons rfl rfl (by simp +decide only [aop, abuiltin, aeval, aintBin, bin_int, aload_bump, SS, reduceIte, reduceCtorEq]; exact rfl) (by first | rfl | with_reducible assumption) rfl ?_) | (refine arl_none rfl rfl (by simp +decide only [aop, abuiltin, aeval, aintBin, bin_int, aload_bump, SS, reduceIte, reduceCtorEq]; exact rfl) rfl rfl ?_) | (refine arl_off rfl rfl ?_) | (refine aw_condT (by simp +decide only [aop, abuiltin, aeval, aintBin, bin_int, aload_bump, SS, reduceIte, reduceCtorEq]; first | done | exact rfl) ?_) | (refine aw_condF (by simp +decide only [aop, abuiltin, aeval, aintBin, bin_int, aload_bump, SS, reduceIte, reduceCtorEq]; first | done | exact rfl) ?_))
  refine arl_call rfl rfl rfl rfl rfl rfl ((fnewP (by repeat (first | assumption | (refine WF.bump ?_ _))) most).wf (by repeat (first | assumption | (refine WF.bump ?_ _) | (refine WF.put ?_ (by simp only [n_bump, n_put, n_touch, n_kill] at *; omega) (by simp only [n_bump, n_put, n_touch, n_kill] at *; omega)))) |>.mono ?_)
  rintro r s1 ⟨hw1, hn1, hE1, p, rfl, hpn, hF1⟩
  refine ⟨by first | rfl | with_reducible assumption, ?_⟩
  replace hE1 : Ext st s1 := Keeps.trans (by repeat (first | assumption | exact Keeps.refl _ _ | (refine Keeps.bumpR ?_ _) | (refine Keeps.put ?_ (by assumption) (by simp only [n_bump, n_put, n_touch, n_kill] at *; omega)))) hE1
  have hN1 := hE1.n
  have hp1 : p + 1 ≤ s1.n := hF1.2.1
  simp only [n_bump] at hpn
  repeat (first | (refine aw_seq ?_) | (refine aw_reg0 (by simp only [SZ, Nat.reduceAdd]; exact rfl) ?_) | (refine aw_reg (by decide +kernel) (by simp only [SZ, Nat.reduceAdd]; exact rfl) ?_) | (refine aw_regS (by decide +kernel) (by simp only [SZ, Nat.reduceAdd]; exact rfl) ?_) | (refine arl_nil ?_) | (refine aw_skip ?_) | (refine aw_block ?_) | (refine aw_exit ?_) | (refine aw_ret ?_) | (refine arl_cons rfl rfl (by simp +decide only [aop, abuiltin, aeval, aintBin, bin_int, aload_bump, SS, reduceIte, reduceCtorEq, pNil]; exact rfl) (by first | rfl | with_reducible assumption) rfl ?_) | (refine arl_none rfl rfl (by simp +decide only [aop, abuiltin, aeval, aintBin, bin_int, aload_bump, SS, reduceIte, reduceCtorEq, pNil]; exact rfl) rfl rfl ?_) | (refine arl_off rfl rfl ?_) | (refine aw_condT (by simp +decide only [aop, abuiltin, aeval, aintBin, bin_int, aload_bump, SS, reduceIte, reduceCtorEq, pNil]; first | done | exact rfl) ?_) | (refine aw_condF (by simp +decide only [aop, abuiltin, aeval, aintBin, bin_int, aload_bump, SS, reduceIte, reduceCtorEq, pNil]; first | done | exact rfl) ?_))
  refine arl_call rfl rfl rfl rfl rfl rfl ((falive_ok (by repeat (first | assumption | (refine WF.bump ?_ _)))).wf (by repeat (first | assumption | (refine WF.bump ?_ _) | (refine WF.put ?_ (by simp only [n_bump, n_put, n_touch, n_kill] at *; omega) (by simp only [n_bump, n_put, n_touch, n_kill] at *; omega)))) |>.mono ?_)
  rintro r s2 ⟨hw2, hn2, hE2, rfl⟩
  refine ⟨by first | rfl | with_reducible assumption, ?_⟩
  replace hE2 : Ext s1 s2 := Keeps.trans (by repeat (first | assumption | exact Keeps.refl _ _ | (refine Keeps.bumpR ?_ _) | (refine Keeps.put ?_ (by assumption) (by simp only [n_bump, n_put, n_touch, n_kill] at *; omega)))) hE2
  have hN2 := hE2.n
  have hF2 := hF1.up hE2
  have hE12 := hE1.trans hE2
  have hN2 := hE2.n
  repeat (first | (refine aw_seq ?_) | (refine aw_reg0 (by simp only [SZ, Nat.reduceAdd]; exact rfl) ?_) | (refine aw_reg (by decide +kernel) (by simp only [SZ, Nat.reduceAdd]; exact rfl) ?_) | (refine aw_regS (by decide +kernel) (by simp only [SZ, Nat.reduceAdd]; exact rfl) ?_) | (refine arl_nil ?_) | (refine aw_skip ?_) | (refine aw_block ?_) | (refine aw_exit ?_) | (refine aw_ret ?_) | (refine arl_cons rfl rfl (by simp +decide only [aop, abuiltin, aeval, aintBin, bin_int, aload_bump, SS, reduceIte, reduceCtorEq, lit0, hln]; exact rfl) (by first | rfl | with_reducible assumption) rfl ?_) | (refine arl_none rfl rfl (by simp +decide only [aop, abuiltin, aeval, aintBin, bin_int, aload_bump, SS, reduceIte, reduceCtorEq, lit0, hln]; exact rfl) rfl rfl ?_) | (refine arl_off rfl rfl ?_) | (refine aw_condT (by simp +decide only [aop, abuiltin, aeval, aintBin, bin_int, aload_bump, SS, reduceIte, reduceCtorEq, lit0, hln]; first | done | exact rfl) ?_) | (refine aw_condF (by simp +decide only [aop, abuiltin, aeval, aintBin, bin_int, aload_bump, SS, reduceIte, reduceCtorEq, lit0, hln]; first | done | exact rfl) ?_))
  refine aw_rounds_wf (fun m fr s => Ext st s ∧ ∃ (k : Nat) (KA KH KB : Nat → Prop), k ≤ ps.length ∧ m = ps.length - k ∧ fr 0 = i64 most ∧ fr 5 = .ptr p 0 ∧ RdB s KA (fr 6) (ps.take k).flatten ∧ fr 7 = i64 ((cutS (bndF most) (ps.take k).flatten).1.length) ∧ fr 24 = v ∧ fr 25 = i64 ps.length ∧ fr 26 = i64 k ∧ Fed s (p + 1) p KH KB (bndF most) (ps.take k).flatten ∧ (∀ g, KA g → g < s.n ∧ g ≠ p ∧ ¬ KH g ∧ ¬ KB g)) ?_ ps.length _ _ (by repeat (first | assumption | (refine WF.bump ?_ _) | (refine WF.put ?_ (by simp only [n_bump, n_put, n_touch, n_kill] at *; omega) (by simp only [n_bump, n_put, n_touch, n_kill] at *; omega)))) ?_
  · rintro m fr sx hwx ⟨hE, k, KA, KH, KB, hk, rfl, f0, f5, hA, f7, f24, f25, f26, hF, hKA⟩
    have hEn := hE.n
    have hfl := flatF_le ps k
    by_cases hlt : k < ps.length
    · have d1 : decide ((k : Int) < (ps.length : Int)) = true := decide_eq_true (by omega)
      obtain ⟨q, c, a1, a2, a3, a4, a5⟩ := row_at (h.up hE) .i64 k hlt
      have hcl := a5.len
      have hckl : ps[k].length ≤ ps.flatten.length := by
        have h1 := flatF_le ps (k + 1)
        rw [flatF_succ ps k hlt, List.length_append] at h1
        omega
      obtain ⟨av, f6⟩ : ∃ x, fr 6 = x := ⟨_, rfl⟩
      rw [f6] at hA
      have has := hA.solid
      have hlo : ∀ g, KH g ∨ KB g → p + 1 ≤ g ∧ g < sx.n := fun g hg => by
        rcases hg with hg | hg
        · exact hF.2.2.1 g hg
        · exact hF.2.2.2.1 g hg
      repeat (first | (refine aw_seq ?_) | (refine aw_reg0 (by simp only [SZ, Nat.reduceAdd]; exact rfl) ?_) | (refine aw_reg (by decide +kernel) (by simp only [SZ, Nat.reduceAdd]; exact rfl) ?_) | (refine aw_regS (by decide +kernel) (by simp only [SZ, Nat.reduceAdd]; exact rfl) ?_) | (refine arl_nil ?_) | (refine aw_skip ?_) | (refine aw_block ?_) | (refine aw_exit ?_) | (refine aw_ret ?_) | (refine arl_cons rfl rfl (by simp +decide only [aop, abuiltin, aeval, aintBin, bin_int, aload_bump, SS, reduceIte, reduceCtorEq, f26, f25, d1, f24, a1, a3]; exact rfl) (by first | rfl | with_reducible assumption) rfl ?_) | (refine arl_none rfl rfl (by simp +decide only [aop, abuiltin, aeval, aintBin, bin_int, aload_bump, SS, reduceIte, reduceCtorEq, f26, f25, d1, f24, a1, a3]; exact rfl) rfl rfl ?_) | (refine arl_off rfl rfl ?_) | (refine aw_condT (by simp +decide only [aop, abuiltin, aeval, aintBin, bin_int, aload_bump, SS, reduceIte, reduceCtorEq, f26, f25, d1, f24, a1, a3]; first | done | exact rfl) ?_) | (refine aw_condF (by simp +decide only [aop, abuiltin, aeval, aintBin, bin_int, aload_bump, SS, reduceIte, reduceCtorEq, f26, f25, d1, f24, a1, a3]; first | done | exact rfl) ?_))
      refine arl_call rfl rfl rfl rfl rfl rfl ((wide_ok (by repeat (first | assumption | (refine WF.bump ?_ _))) (a5.up (by repeat (first | exact Keeps.refl _ _ | (refine Keeps.bumpR ?_ _)))) (by omega)).wf (by repeat (first | assumption | (refine WF.bump ?_ _) | (refine WF.put ?_ (by simp only [n_bump, n_put, n_touch, n_kill] at *; omega) (by simp only [n_bump, n_put, n_touch, n_kill] at *; omega)))) |>.mono ?_)
      rintro wh s3 ⟨hw3, hn3, hE3, hws, hW⟩
      refine ⟨by first | rfl | with_reducible assumption, ?_⟩
      replace hE3 : Ext sx s3 := Keeps.trans (by repeat (first | assumption | exact Keeps.refl _ _ | (refine Keeps.bumpR ?_ _) | (refine Keeps.put ?_ (by assumption) (by simp only [n_bump, n_put, n_touch, n_kill] at *; omega)))) hE3
      have hN3 := hE3.n
      replace hW := (hW.lt hw3).mono (K' := fun g => sx.n ≤ g ∧ g < s3.n) (fun g hg => ⟨by have := hg.1; simp only [n_bump] at this; omega, hg.2⟩)
      obtain ⟨u, hcut, hus, hU⟩ := hW.rd.cuts none (some (i64 ps[k].length)) 0 ps[k].length (.inr ⟨rfl, rfl⟩) (.inl rfl) (by omega) (by simp)
      have hub : ((ps[k] ++ marks 96).drop 0).take (ps[k].length - 0) = ps[k] := by simp
      rw [hub] at hU
      have hbyA : ∀ x ∈ (ps.take k).flatten ++ ps[k], 0 ≤ x ∧ x < 256 := fun x hx => by
        rw [← flatF_succ ps k hlt] at hx
        obtain ⟨l, hl, hx⟩ := List.mem_flatten.1 hx
        exact hby l (List.mem_of_mem_take hl) x hx
      have hfl1 := flatF_le ps (k + 1)
      rw [flatF_succ ps k hlt, List.length_append] at hfl1
      repeat (first | (refine aw_seq ?_) | (refine aw_reg0 (by simp only [SZ, Nat.reduceAdd]; exact rfl) ?_) | (refine aw_reg (by decide +kernel) (by simp only [SZ, Nat.reduceAdd]; exact rfl) ?_) | (refine aw_regS (by decide +kernel) (by simp only [SZ, Nat.reduceAdd]; exact rfl) ?_) | (refine arl_nil ?_) | (refine aw_skip ?_) | (refine aw_block ?_) | (refine aw_exit ?_) | (refine aw_ret ?_) | (refine arl_cons rfl rfl (by simp +decide only [aop, abuiltin, aeval, aintBin, bin_int, aload_bump, SS, reduceIte, reduceCtorEq, f5, hcl, hcut]; exact rfl) (by first | rfl | with_reducible assumption) rfl ?_) | (refine arl_none rfl rfl (by simp +decide only [aop, abuiltin, aeval, aintBin, bin_int, aload_bump, SS, reduceIte, reduceCtorEq, f5, hcl, hcut]; exact rfl) rfl rfl ?_) | (refine arl_off rfl rfl ?_) | (refine aw_condT (by simp +decide only [aop, abuiltin, aeval, aintBin, bin_int, aload_bump, SS, reduceIte, reduceCtorEq, f5, hcl, hcut]; first | done | exact rfl) ?_) | (refine aw_condF (by simp +decide only [aop, abuiltin, aeval, aintBin, bin_int, aload_bump, SS, reduceIte, reduceCtorEq, f5, hcl, hcut]; first | done | exact rfl) ?_))
      refine arl_call rfl rfl rfl rfl rfl rfl ((fed_ok (by repeat (first | assumption | (refine WF.bump ?_ _))) ((hF.up hE3).up (by repeat (first | exact Keeps.refl _ _ | (refine Keeps.bumpR ?_ _)))) hM.2 (hU.up (by repeat (first | exact Keeps.refl _ _ | (refine Keeps.bumpR ?_ _)))) (fun g hg => ⟨fun h => by have := hlo g (.inl h); omega, fun h => by have := hlo g (.inr h); omega, by have := hF.2.1; omega⟩) hbyA (by omega)).wf (by repeat (first | assumption | (refine WF.bump ?_ _) | (refine WF.put ?_ (by simp only [n_bump, n_put, n_touch, n_kill] at *; omega) (by simp only [n_bump, n_put, n_touch, n_kill] at *; omega)))) |>.mono ?_)
      rintro res s4 ⟨hw4, hn4, hE4, x, KX, KH', KB', L, fs, rfl, hxs, hO, hG, hfs, -, hF4⟩
      refine ⟨rfl, ?_⟩
      replace hE4 : Keeps (fun g => g = p ∨ KH g ∨ KB g) s3 s4 := Keeps.trans (Keeps.mono (G := fun _ => False) (show Ext s3 _ from (by repeat (first | exact Keeps.refl _ _ | (refine Keeps.bumpR ?_ _)))) (fun _ h => h.elim)) hE4
      have hN3 := hE3.n
      have hN4 := hE4.n
      have hpx : p + 1 ≤ sx.n := hF.2.1
      have hW4 := hW.keep hE4 (fun g hg hg' => by rcases hg' with h | h | h; omega; have := hlo g (.inl h); omega; have := hlo g (.inr h); omega)
      have hc4 := (a5.up hE3).keep hE4 (fun g hg hg' => by have := hg.2; rcases hg' with h | h | h; omega; have := hlo g (.inl h); omega; have := hlo g (.inr h); omega)
      have hA4 := (hA.up hE3).keep hE4 (fun g hg hg' => by rcases hg' with h | h | h; exact (hKA g hg).2.1 h; exact (hKA g hg).2.2.1 h; exact (hKA g hg).2.2.2 h)
      have hS4 : Ext st s4 := Keeps.call (hE.trans hE3) hE4 hw (fun g hg => .inr (by rcases hg with h | h | h; omega; have := hlo g (.inl h); omega; have := hlo g (.inr h); omega))
      repeat (first | (refine aw_seq ?_) | (refine aw_reg0 (by simp only [SZ, Nat.reduceAdd]; exact rfl) ?_) | (refine aw_reg (by decide +kernel) (by simp only [SZ, Nat.reduceAdd]; exact rfl) ?_) | (refine aw_regS (by decide +kernel) (by simp only [SZ, Nat.reduceAdd]; exact rfl) ?_) | (refine arl_nil ?_) | (refine aw_skip ?_) | (refine aw_block ?_) | (refine aw_exit ?_) | (refine aw_ret ?_) | (refine arl_cons rfl rfl (by simp +decide only [aop, abuiltin, aeval, aintBin, bin_int, aload_bump, SS, reduceIte, reduceCtorEq]; exact rfl) (by first | rfl | with_reducible assumption) rfl ?_) | (refine arl_none rfl rfl (by simp +decide only [aop, abuiltin, aeval, aintBin, bin_int, aload_bump, SS, reduceIte, reduceCtorEq]; exact rfl) rfl rfl ?_) | (refine arl_off rfl rfl ?_) | (refine aw_condT (by simp +decide only [aop, abuiltin, aeval, aintBin, bin_int, aload_bump, SS, reduceIte, reduceCtorEq]; first | done | exact rfl) ?_) | (refine aw_condF (by simp +decide only [aop, abuiltin, aeval, aintBin, bin_int, aload_bump, SS, reduceIte, reduceCtorEq]; first | done | exact rfl) ?_))
      refine arl_call rfl rfl rfl rfl rfl rfl ((intact_ok (by repeat (first | assumption | (refine WF.bump ?_ _))) (hW4.rd.up (by repeat (first | exact Keeps.refl _ _ | (refine Keeps.bumpR ?_ _)))) (hc4.up (by repeat (first | exact Keeps.refl _ _ | (refine Keeps.bumpR ?_ _)))) (by omega) (by simp [marks_len]; omega)).wf (by repeat (first | assumption | (refine WF.bump ?_ _) | (refine WF.put ?_ (by simp only [n_bump, n_put, n_touch, n_kill] at *; omega) (by simp only [n_bump, n_put, n_touch, n_kill] at *; omega)))) |>.mono ?_)
      rintro r s5 ⟨hw5, hn5, hE5, rfl⟩
      refine ⟨by first | rfl | with_reducible assumption, ?_⟩
      replace hE5 : Ext s4 s5 := Keeps.trans (by repeat (first | assumption | exact Keeps.refl _ _ | (refine Keeps.bumpR ?_ _) | (refine Keeps.put ?_ (by assumption) (by simp only [n_bump, n_put, n_touch, n_kill] at *; omega)))) hE5
      have hN5 := hE5.n
      have hdt : decide (ps[k] ++ marks 96 = ps[k] ++ marks 96) = true := by simp
      rw [hdt]
      repeat (first | (refine aw_seq ?_) | (refine aw_reg0 (by simp only [SZ, Nat.reduceAdd]; exact rfl) ?_) | (refine aw_reg (by decide +kernel) (by simp only [SZ, Nat.reduceAdd]; exact rfl) ?_) | (refine aw_regS (by decide +kernel) (by simp only [SZ, Nat.reduceAdd]; exact rfl) ?_) | (refine arl_nil ?_) | (refine aw_skip ?_) | (refine aw_block ?_) | (refine aw_exit ?_) | (refine aw_ret ?_) | (refine arl_cons rfl rfl (by simp +decide only [aop, abuiltin, aeval, aintBin, bin_int, aload_bump, SS, reduceIte, reduceCtorEq, f6]; exact rfl) (by first | rfl | with_reducible assumption) rfl ?_) | (refine arl_none rfl rfl (by simp +decide only [aop, abuiltin, aeval, aintBin, bin_int, aload_bump, SS, reduceIte, reduceCtorEq, f6]; exact rfl) rfl rfl ?_) | (refine arl_off rfl rfl ?_) | (refine aw_condT (by simp +decide only [aop, abuiltin, aeval, aintBin, bin_int, aload_bump, SS, reduceIte, reduceCtorEq, f6]; first | done | exact rfl) ?_) | (refine aw_condF (by simp +decide only [aop, abuiltin, aeval, aintBin, bin_int, aload_bump, SS, reduceIte, reduceCtorEq, f6]; first | done | exact rfl) ?_))
      refine arl_call rfl rfl rfl rfl rfl rfl ((cat_ok (by repeat (first | assumption | (refine WF.bump ?_ _))) ((hA4.up hE5).up (by repeat (first | exact Keeps.refl _ _ | (refine Keeps.bumpR ?_ _)))) ((hc4.up hE5).up (by repeat (first | exact Keeps.refl _ _ | (refine Keeps.bumpR ?_ _)))) (by omega)).wf (by repeat (first | assumption | (refine WF.bump ?_ _) | (refine WF.put ?_ (by simp only [n_bump, n_put, n_touch, n_kill] at *; omega) (by simp only [n_bump, n_put, n_touch, n_kill] at *; omega)))) |>.mono ?_)
      rintro al s6 ⟨hw6, hn6, hE6, hals, hAl⟩
      refine ⟨by first | rfl | with_reducible assumption, ?_⟩
      replace hE6 : Ext s5 s6 := Keeps.trans (by repeat (first | assumption | exact Keeps.refl _ _ | (refine Keeps.bumpR ?_ _) | (refine Keeps.put ?_ (by assumption) (by simp only [n_bump, n_put, n_touch, n_kill] at *; omega)))) hE6
      have hN6 := hE6.n
      replace hAl := hAl.lt hw6
      rw [← flatF_succ ps k hlt] at hAl hF4 hbyA hfs
      have hN5 := hE5.n
      have hN6 := hE6.n
      have hfl2 := flatF_le ps (k + 1)
      repeat (first | (refine aw_seq ?_) | (refine aw_reg0 (by simp only [SZ, Nat.reduceAdd]; exact rfl) ?_) | (refine aw_reg (by decide +kernel) (by simp only [SZ, Nat.reduceAdd]; exact rfl) ?_) | (refine aw_regS (by decide +kernel) (by simp only [SZ, Nat.reduceAdd]; exact rfl) ?_) | (refine arl_nil ?_) | (refine aw_skip ?_) | (refine aw_block ?_) | (refine aw_exit ?_) | (refine aw_ret ?_) | (refine arl_cons rfl rfl (by simp +decide only [aop, abuiltin, aeval, aintBin, bin_int, aload_bump, SS, reduceIte, reduceCtorEq, f0]; exact rfl) (by first | rfl | with_reducible assumption) rfl ?_) | (refine arl_none rfl rfl (by simp +decide only [aop, abuiltin, aeval, aintBin, bin_int, aload_bump, SS, reduceIte, reduceCtorEq, f0]; exact rfl) rfl rfl ?_) | (refine arl_off rfl rfl ?_) | (refine aw_condT (by simp +decide only [aop, abuiltin, aeval, aintBin, bin_int, aload_bump, SS, reduceIte, reduceCtorEq, f0]; first | done | exact rfl) ?_) | (refine aw_condF (by simp +decide only [aop, abuiltin, aeval, aintBin, bin_int, aload_bump, SS, reduceIte, reduceCtorEq, f0]; first | done | exact rfl) ?_))
      refine arl_call rfl rfl rfl rfl rfl rfl ((rcut_ok (by repeat (first | assumption | (refine WF.bump ?_ _))) most (hAl.rd.up (by repeat (first | exact Keeps.refl _ _ | (refine Keeps.bumpR ?_ _)))) (by omega) hbyA).dead.wf (by repeat (first | assumption | (refine WF.bump ?_ _) | (refine WF.put ?_ (by simp only [n_bump, n_put, n_touch, n_kill] at *; omega) (by simp only [n_bump, n_put, n_touch, n_kill] at *; omega)))) |>.mono ?_)
      rintro r s7 ⟨hw7, hn7, hd7, hE7, wx, rfl, hwxs, hWx⟩
      refine ⟨rfl, ?_⟩
      replace hE7 : Ext s6 s7 := Keeps.trans (show Ext s6 _ from (by repeat (first | exact Keeps.refl _ _ | (refine Keeps.bumpR ?_ _)))) hE7
      simp only [n_bump] at hn7
      repeat (first | (refine aw_seq ?_) | (refine aw_reg0 (by simp only [SZ, Nat.reduceAdd]; exact rfl) ?_) | (refine aw_reg (by decide +kernel) (by simp only [SZ, Nat.reduceAdd]; exact rfl) ?_) | (refine aw_regS (by decide +kernel) (by simp only [SZ, Nat.reduceAdd]; exact rfl) ?_) | (refine arl_nil ?_) | (refine aw_skip ?_) | (refine aw_block ?_) | (refine aw_exit ?_) | (refine aw_ret ?_) | (refine arl_cons rfl rfl (by simp +decide only [aop, abuiltin, aeval, aintBin, bin_int, aload_bump, SS, reduceIte, reduceCtorEq]; exact rfl) (by first | rfl | with_reducible assumption) rfl ?_) | (refine arl_none rfl rfl (by simp +decide only [aop, abuiltin, aeval, aintBin, bin_int, aload_bump, SS, reduceIte, reduceCtorEq]; exact rfl) rfl rfl ?_) | (refine arl_off rfl rfl ?_) | (refine aw_condT (by simp +decide only [aop, abuiltin, aeval, aintBin, bin_int, aload_bump, SS, reduceIte, reduceCtorEq]; first | done | exact rfl) ?_) | (refine aw_condF (by simp +decide only [aop, abuiltin, aeval, aintBin, bin_int, aload_bump, SS, reduceIte, reduceCtorEq]; first | done | exact rfl) ?_))
      obtain ⟨Q, hQ⟩ : ∃ Q, cutS (bndF most) (ps.take (k + 1)).flatten = Q := ⟨_, rfl⟩
      have hlens := cut_lens (bndF most) (ps.take (k + 1)).flatten
      rw [hQ] at hWx hfs hlens ⊢
      obtain ⟨qa, qb, qc, qd, hst⟩ : ∃ qa qb qc qd : Int, stOf (ps.take (k + 1)).flatten Q = stT qa qb qc qd ∧ qd = Q.2.2 := ⟨_, _, _, _, rfl, rfl⟩
      obtain ⟨hst, hqd⟩ := hst
      rw [hst]
      refine arl_storeW (e := ST) (cs := [i64 qa, i64 qb, i64 qc, i64 qd]) rfl rfl rfl rfl rfl (get_put _ _) szST rfl rfl rfl rfl rfl ?_
      intro s8 hn8 hwf8 hK8 hg8 hD8
      have hw8 : WF s8 := hwf8 (WF.put hw7 (show s6.n + (0 + 1 + 1 + 1 + 1 + 1 + 1) < s7.n by omega) (show s6.n + (0 + 1 + 1 + 1 + 1 + 1 + 1) < s7.n by omega))
      have hn8' : s8.n = s7.n := by rw [hn8]; rfl
      have hput : ∀ o : AObj, Ext s7 (s7.put (s6.n + (0 + 1 + 1 + 1 + 1 + 1 + 1)) o) := fun o => Keeps.putF (Keeps.refl _ _) (hd7 _ (by simp only [n_bump]; omega) (fresh hw6 (by omega)))
      have hE68 : Ext s6 s8 := Keeps.call (Keeps.trans hE7 (hput _)) hK8 hw6 (fun g hg => .inr (by omega))
      have hE48 : Ext s4 s8 := (hE5.trans hE6).trans hE68
      have hW8 := (RdE.up hWx (hput _)).keep hK8 (fun g hg => by simp only [n_bump] at hg; show ¬ g = _; omega)
      have hls : aload Try.prog s8 ST (.ptr (s6.n + (0 + 1 + 1 + 1 + 1 + 1 + 1)) 0) = some (stT qa qb qc qd) := load_agg Try.underlying34 rfl szST hg8 (by simp)
      have hle : aload Try.prog s8 28 (.ptr (s6.n + (0 + 1 + 1 + 1 + 1 + 1 + 1)) (0 + 3)) = some (i64 qd) := ldE hg8 rfl
      obtain ⟨u2, hcut2, hus2, hU2⟩ := RdE.from_ hW8 (cutS (bndF most) (ps.take k).flatten).1.length (by rw [hfs, List.length_append]; omega)
      rw [hfs, List.drop_left] at hU2
      have hfs8 := (oRow_rd (hO.up hE48)).rd
      have hfsl : fs.length ≤ Q.1.length := by rw [hfs, List.length_append]; omega
      have hlw := RdE.len hW8 TRr
      repeat (first | (refine aw_seq ?_) | (refine aw_reg0 (by simp only [SZ, Nat.reduceAdd]; exact rfl) ?_) | (refine aw_reg (by decide +kernel) (by simp only [SZ, Nat.reduceAdd]; exact rfl) ?_) | (refine aw_regS (by decide +kernel) (by simp only [SZ, Nat.reduceAdd]; exact rfl) ?_) | (refine arl_nil ?_) | (refine aw_skip ?_) | (refine aw_block ?_) | (refine aw_exit ?_) | (refine aw_ret ?_) | (refine arl_cons rfl rfl (by simp +decide only [aop, abuiltin, aeval, aintBin, bin_int, aload_bump, SS, reduceIte, reduceCtorEq, f7, hcut2]; exact rfl) (by first | rfl | with_reducible assumption) rfl ?_) | (refine arl_none rfl rfl (by simp +decide only [aop, abuiltin, aeval, aintBin, bin_int, aload_bump, SS, reduceIte, reduceCtorEq, f7, hcut2]; exact rfl) rfl rfl ?_) | (refine arl_off rfl rfl ?_) | (refine aw_condT (by simp +decide only [aop, abuiltin, aeval, aintBin, bin_int, aload_bump, SS, reduceIte, reduceCtorEq, f7, hcut2]; first | done | exact rfl) ?_) | (refine aw_condF (by simp +decide only [aop, abuiltin, aeval, aintBin, bin_int, aload_bump, SS, reduceIte, reduceCtorEq, f7, hcut2]; first | done | exact rfl) ?_))
      refine arl_callS rfl rfl rfl rfl rfl rfl ((ralike_ok (by repeat (first | assumption | (refine WF.bump ?_ _))) (hfs8.up (by repeat (first | exact Keeps.refl _ _ | (refine Keeps.bumpR ?_ _)))) (hU2.up (by repeat (first | exact Keeps.refl _ _ | (refine Keeps.bumpR ?_ _)))) (by omega) (fun f hf => by have := hlens.2 f (by rw [hfs]; exact List.mem_append_right _ hf); omega)).wf (by repeat (first | assumption | (refine WF.bump ?_ _) | (refine WF.put ?_ (by simp only [n_bump, n_put, n_touch, n_kill] at *; omega) (by simp only [n_bump, n_put, n_touch, n_kill] at *; omega)))) |>.mono ?_)
      rintro r s9 ⟨hw9, hn9, hE9, rfl⟩
      refine ⟨hE9, by first | rfl | with_reducible assumption, ?_⟩
      replace hE9 : Ext s8 s9 := Keeps.trans (by repeat (first | assumption | exact Keeps.refl _ _ | (refine Keeps.bumpR ?_ _) | (refine Keeps.put ?_ (by assumption) (by simp only [n_bump, n_put, n_touch, n_kill] at *; omega)))) hE9
      have hN9 := hE9.n
      have hee : ((cutS (bndF most) ((ps.take k).flatten ++ ps[k])).2.2 != qd) = false := by
        rw [← flatF_succ ps k hlt, hQ, hqd]
        simp
      have hle9 := aload_up hE9 hle
      have hls9 := aload_up hE9 hls
      repeat (first | (refine aw_seq ?_) | (refine aw_reg0 (by simp only [SZ, Nat.reduceAdd]; exact rfl) ?_) | (refine aw_reg (by decide +kernel) (by simp only [SZ, Nat.reduceAdd]; exact rfl) ?_) | (refine aw_regS (by decide +kernel) (by simp only [SZ, Nat.reduceAdd]; exact rfl) ?_) | (refine arl_nil ?_) | (refine aw_skip ?_) | (refine aw_block ?_) | (refine aw_exit ?_) | (refine aw_ret ?_) | (refine arl_cons rfl rfl (by simp +decide only [aop, abuiltin, aeval, aintBin, bin_int, aload_bump, SS, reduceIte, reduceCtorEq, fs3, hle9, hee, f5]; exact rfl) (by first | rfl | with_reducible assumption) rfl ?_) | (refine arl_none rfl rfl (by simp +decide only [aop, abuiltin, aeval, aintBin, bin_int, aload_bump, SS, reduceIte, reduceCtorEq, fs3, hle9, hee, f5]; exact rfl) rfl rfl ?_) | (refine arl_off rfl rfl ?_) | (refine aw_condT (by simp +decide only [aop, abuiltin, aeval, aintBin, bin_int, aload_bump, SS, reduceIte, reduceCtorEq, fs3, hle9, hee, f5]; first | done | exact rfl) ?_) | (refine aw_condF (by simp +decide only [aop, abuiltin, aeval, aintBin, bin_int, aload_bump, SS, reduceIte, reduceCtorEq, fs3, hle9, hee, f5]; first | done | exact rfl) ?_))
      refine arl_callS rfl rfl rfl rfl rfl rfl ((fstate_ok (by repeat (first | assumption | (refine WF.bump ?_ _))) (((hF4.up hE48).up hE9).up (by repeat (first | exact Keeps.refl _ _ | (refine Keeps.bumpR ?_ _)))) (by omega)).wf (by repeat (first | assumption | (refine WF.bump ?_ _) | (refine WF.put ?_ (by simp only [n_bump, n_put, n_touch, n_kill] at *; omega) (by simp only [n_bump, n_put, n_touch, n_kill] at *; omega)))) |>.mono ?_)
      rintro r s10 ⟨hw10, hn10, hE10, rfl⟩
      refine ⟨hE10, by first | rfl | with_reducible assumption, ?_⟩
      replace hE10 : Ext s9 s10 := Keeps.trans (by repeat (first | assumption | exact Keeps.refl _ _ | (refine Keeps.bumpR ?_ _) | (refine Keeps.put ?_ (by assumption) (by simp only [n_bump, n_put, n_touch, n_kill] at *; omega)))) hE10
      have hN10 := hE10.n
      rw [hQ, hst]
      have hls10 := aload_up hE10 hls9
      have hne := stNe qa qb qc qd
      repeat (first | (refine aw_seq ?_) | (refine aw_reg0 (by simp only [SZ, Nat.reduceAdd]; exact rfl) ?_) | (refine aw_reg (by decide +kernel) (by simp only [SZ, Nat.reduceAdd]; exact rfl) ?_) | (refine aw_regS (by decide +kernel) (by simp only [SZ, Nat.reduceAdd]; exact rfl) ?_) | (refine arl_nil ?_) | (refine aw_skip ?_) | (refine aw_block ?_) | (refine aw_exit ?_) | (refine aw_ret ?_) | (refine arl_cons rfl rfl (by simp +decide only [aop, abuiltin, aeval, aintBin, bin_int, aload_bump, SS, reduceIte, reduceCtorEq, hls10, hne]; exact rfl) (by first | rfl | with_reducible assumption) rfl ?_) | (refine arl_none rfl rfl (by simp +decide only [aop, abuiltin, aeval, aintBin, bin_int, aload_bump, SS, reduceIte, reduceCtorEq, hls10, hne]; exact rfl) rfl rfl ?_) | (refine arl_off rfl rfl ?_) | (refine aw_condT (by simp +decide only [aop, abuiltin, aeval, aintBin, bin_int, aload_bump, SS, reduceIte, reduceCtorEq, hls10, hne]; first | done | exact rfl) ?_) | (refine aw_condF (by simp +decide only [aop, abuiltin, aeval, aintBin, bin_int, aload_bump, SS, reduceIte, reduceCtorEq, hls10, hne]; first | done | exact rfl) ?_))
      have hlw10 := hlw
      have hwk := wrap_succ (k := k) (by omega)
      repeat (first | (refine aw_seq ?_) | (refine aw_reg0 (by simp only [SZ, Nat.reduceAdd]; exact rfl) ?_) | (refine aw_reg (by decide +kernel) (by simp only [SZ, Nat.reduceAdd]; exact rfl) ?_) | (refine aw_regS (by decide +kernel) (by simp only [SZ, Nat.reduceAdd]; exact rfl) ?_) | (refine arl_nil ?_) | (refine aw_skip ?_) | (refine aw_block ?_) | (refine aw_exit ?_) | (refine aw_ret ?_) | (refine arl_cons rfl rfl (by simp +decide only [aop, abuiltin, aeval, aintBin, bin_int, aload_bump, SS, reduceIte, reduceCtorEq, hlw, f26, hwk]; exact rfl) (by first | rfl | with_reducible assumption) rfl ?_) | (refine arl_none rfl rfl (by simp +decide only [aop, abuiltin, aeval, aintBin, bin_int, aload_bump, SS, reduceIte, reduceCtorEq, hlw, f26, hwk]; exact rfl) rfl rfl ?_) | (refine arl_off rfl rfl ?_) | (refine aw_condT (by simp +decide only [aop, abuiltin, aeval, aintBin, bin_int, aload_bump, SS, reduceIte, reduceCtorEq, hlw, f26, hwk]; first | done | exact rfl) ?_) | (refine aw_condF (by simp +decide only [aop, abuiltin, aeval, aintBin, bin_int, aload_bump, SS, reduceIte, reduceCtorEq, hlw, f26, hwk]; first | done | exact rfl) ?_))
      have hN9 := hE9.n
      have hN10 := hE10.n
      have hN68 := hE68.n
      have hE610 : Ext s6 s10 := (hE68.trans hE9).trans hE10
      refine ⟨ps.length - (k + 1), by omega, ((((hS4.trans hE5).trans hE6).trans hE610)).trans (by repeat (first | exact Keeps.refl _ _ | (refine Keeps.bumpR ?_ _))), k + 1, fun g => s5.n ≤ g ∧ g < s6.n, KH', KB', by omega, rfl, f0, f5, ?_, ?_, f24, f25, rfl, ((((hF4.up hE48).up hE9).up hE10)).up (by repeat (first | exact Keeps.refl _ _ | (refine Keeps.bumpR ?_ _))), ?_⟩
      · exact ((hAl.rd.mono (fun g hg => ⟨by have := hg.1; simp only [n_bump] at this; omega, hg.2⟩)).up hE610).up (by repeat (first | exact Keeps.refl _ _ | (refine Keeps.bumpR ?_ _)))
      · rw [hQ]; rfl
      · intro g hg
        have hKn : ∀ g, KH' g ∨ KB' g → g < s4.n := fun g hg => by
          rcases hg with hg | hg
          · rcases hG.h g hg with h | h
            · have := hlo g (.inl h); omega
            · exact h.2
          · rcases hG.b g hg with h | h
            · have := hlo g (.inr h); omega
            · exact h.2
        refine ⟨by simp only [n_bump]; omega, by omega, fun h => ?_, fun h => ?_⟩
        · have := hKn g (.inl h); omega
        · have := hKn g (.inr h); omega
    · have d1 : decide ((k : Int) < (ps.length : Int)) = false := decide_eq_false (by omega)
      obtain rfl : k = ps.length := by omega
      rw [List.take_length] at f7 hF
      repeat (first | (refine aw_seq ?_) | (refine aw_reg0 (by simp only [SZ, Nat.reduceAdd]; exact rfl) ?_) | (refine aw_reg (by decide +kernel) (by simp only [SZ, Nat.reduceAdd]; exact rfl) ?_) | (refine aw_regS (by decide +kernel) (by simp only [SZ, Nat.reduceAdd]; exact rfl) ?_) | (refine arl_nil ?_) | (refine aw_skip ?_) | (refine aw_block ?_) | (refine aw_exit ?_) | (refine aw_ret ?_) | (refine arl_cons rfl rfl (by simp +decide only [aop, abuiltin, aeval, aintBin, bin_int, aload_bump, SS, reduceIte, reduceCtorEq, f26, f25, d1, f5]; exact rfl) (by first | rfl | with_reducible assumption) rfl ?_) | (refine arl_none rfl rfl (by simp +decide only [aop, abuiltin, aeval, aintBin, bin_int, aload_bump, SS, reduceIte, reduceCtorEq, f26, f25, d1, f5]; exact rfl) rfl rfl ?_) | (refine arl_off rfl rfl ?_) | (refine aw_condT (by simp +decide only [aop, abuiltin, aeval, aintBin, bin_int, aload_bump, SS, reduceIte, reduceCtorEq, f26, f25, d1, f5]; first | done | exact rfl) ?_) | (refine aw_condF (by simp +decide only [aop, abuiltin, aeval, aintBin, bin_int, aload_bump, SS, reduceIte, reduceCtorEq, f26, f25, d1, f5]; first | done | exact rfl) ?_))
      refine arl_call rfl rfl rfl rfl rfl rfl ((fstate_ok (by repeat (first | assumption | (refine WF.bump ?_ _))) (hF.up (by repeat (first | exact Keeps.refl _ _ | (refine Keeps.bumpR ?_ _)))) (by omega)).wf (by repeat (first | assumption | (refine WF.bump ?_ _) | (refine WF.put ?_ (by simp only [n_bump, n_put, n_touch, n_kill] at *; omega) (by simp only [n_bump, n_put, n_touch, n_kill] at *; omega)))) |>.mono ?_)
      rintro r s3 ⟨hw3, hn3, hE3, rfl⟩
      refine ⟨by first | rfl | with_reducible assumption, ?_⟩
      replace hE3 : Ext sx s3 := Keeps.trans (by repeat (first | assumption | exact Keeps.refl _ _ | (refine Keeps.bumpR ?_ _) | (refine Keeps.put ?_ (by assumption) (by simp only [n_bump, n_put, n_touch, n_kill] at *; omega)))) hE3
      have hN3 := hE3.n
      have hq : (((cutS (bndF most) ps.flatten).1.length : Int) == ((cutS (bndF most) ps.flatten).1.length : Int)) = true := by simp
      have hfld : ∀ (a b c d : Int), apart_ Try.prog 3 [i64 a, i64 b, i64 c, i64 d] 0 = some (i64 a) := fun _ _ _ _ => by kernel_rfl
      unfold stOf stT
      repeat (first | (refine aw_seq ?_) | (refine aw_reg0 (by simp only [SZ, Nat.reduceAdd]; exact rfl) ?_) | (refine aw_reg (by decide +kernel) (by simp only [SZ, Nat.reduceAdd]; exact rfl) ?_) | (refine aw_regS (by decide +kernel) (by simp only [SZ, Nat.reduceAdd]; exact rfl) ?_) | (refine arl_nil ?_) | (refine aw_skip ?_) | (refine aw_block ?_) | (refine aw_exit ?_) | (refine aw_ret ?_) | (refine arl_cons rfl rfl (by simp +decide only [aop, abuiltin, aeval, aintBin, bin_int, aload_bump, SS, reduceIte, reduceCtorEq, f7, hq, Try.underlying34, hfld]; exact rfl) (by first | rfl | with_reducible assumption) rfl ?_) | (refine arl_none rfl rfl (by simp +decide only [aop, abuiltin, aeval, aintBin, bin_int, aload_bump, SS, reduceIte, reduceCtorEq, f7, hq, Try.underlying34, hfld]; exact rfl) rfl rfl ?_) | (refine arl_off rfl rfl ?_) | (refine aw_condT (by simp +decide only [aop, abuiltin, aeval, aintBin, bin_int, aload_bump, SS, reduceIte, reduceCtorEq, f7, hq, Try.underlying34, hfld]; first | done | exact rfl) ?_) | (refine aw_condF (by simp +decide only [aop, abuiltin, aeval, aintBin, bin_int, aload_bump, SS, reduceIte, reduceCtorEq, f7, hq, Try.underlying34, hfld]; first | done | exact rfl) ?_))
      exact ⟨.inr rfl, _, rfl, rfl⟩
  · refine ⟨(by repeat (first | assumption | exact Keeps.refl _ _ | (refine Keeps.bumpR ?_ _) | (refine Keeps.put ?_ (by assumption) (by simp only [n_bump, n_put, n_touch, n_kill] at *; omega)))), 0, fun _ => False, fun _ => False, fun _ => False, by omega, rfl, rfl, rfl, .inl ⟨rfl, .inr ⟨_, 0, true, rfl⟩⟩, ?_, rfl, rfl, rfl, ?_, fun _ h => h.elim⟩
    · rw [List.take_zero]; rfl
    · rw [List.take_zero]; exact hF2.up (by repeat (first | assumption | exact Keeps.refl _ _ | (refine Keeps.bumpR ?_ _) | (refine Keeps.put ?_ (by assumption) (by simp only [n_bump, n_put, n_touch, n_kill] at *; omega))))
theorem sum_flat (ps : List (List Int)) : (ps.map fun xs : List Int => (xs.map fun _ => 1).sum + 1).sum = ps.flatten.length + ps.length := by
  induction ps with
  | nil => rfl
  | cons x l ih =>
    rw [List.map_cons, List.sum_cons, ih, sum_1]
    simp
    omega
theorem FrameFeeds_small {st : St} (hw : WF st) (most : Int) (gm : (Lit.int .i64 most).wf = true) {v : AV} {ps : List (List Int)} (h : RdL st (fun _ => True) 1 (fun cs xs => ∃ v, cs = [v] ∧ RdL st (fun _ => True) 1 (fun cs n => cs = [.pl (.int .u8 n)]) v xs) v ps)
    (good : ∀ x ∈ ps, ∀ y ∈ x, (Lit.int .u8 y).wf = true) (hb : 1 + ((ps.map fun xs : List Int => (xs.map fun _ => 1).sum + 1).sum + 1) ≤ 1048576) : ACalls Try.prog 3 [i64 most, v] st (fun r s => r = .pl (.bool true)) := by
  rw [sum_flat] at hb
  exact feeds_ok hw most (rows_of h) (by omega) (fun p hp x hx => wfu8 (good p hp x hx))
end Go.Proofs.Ytoccmjhgmoandaa.Ra
