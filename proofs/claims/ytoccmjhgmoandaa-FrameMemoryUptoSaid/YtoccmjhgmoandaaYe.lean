/- leatlaw17.FrameSplits. -/
import Derived.Test.YtoccmjhgmoandaaYd
namespace Go.Proofs.Ytoccmjhgmoandaa.Ra
open Go Go.RowKit
set_option linter.unusedVariables false
set_option linter.unusedSimpArgs false
set_option maxRecDepth 10000
theorem OwX.neSl {α : Type} {k : EK α} {st : St} {K : Nat → Prop} {L : Nat → Nat → Prop} {e : TypeId} {i off n es : Nat} {v : AV} (h : v = .sl i off n es) : v ≠ .pl (.slice none 0 0) := by rw [h]; intro h; cases h
set_option maxHeartbeats 8000000 in
theorem splits_ok {st : St} (hw : WF st) {v : AV} {ps : List (List Int)} (most : Int) (h : RdE rowK st (fun _ => True) v ps) (hl : ps.flatten.length + ps.length ≤ 1048576) (hby : ∀ p ∈ ps, ∀ x ∈ p, 0 ≤ x ∧ x < 256) :
    ACalls Try.prog 7 [i64 most, v] st (fun r s => r = .pl (.bool true)) := by
  replace h := RdE.lt hw h
  have hvs := h.solid
  have hln := RdE.len h TRr
  have hM := bndF_in most
  have hby' : ∀ x ∈ ps.flatten, 0 ≤ x ∧ x < 256 := fun x hx => by
    obtain ⟨l, hl, hx⟩ := List.mem_flatten.1 hx
    exact hby l hl x hx
  refine acalls_of Try.func7 rfl (by kernel_rfl) (by simp [hvs]; rfl) ?_
  repeat (first | (refine aw_seq ?_) | (refine aw_reg0 (by simp only [SZ, Nat.reduceAdd]; exact rfl) ?_) | (refine aw_reg (by decide +kernel) (by simp only [SZ, Nat.reduceAdd]; exact rfl) ?_) | (refine aw_regS (by decide +kernel) (by simp only [SZ, Nat.reduceAdd]; exact rfl) ?_) | (refine arl_nil ?_) | (refine aw_skip ?_) | (refine aw_block ?_) | (refine aw_exit ?_) | (refine aw_ret ?_) | (refine arl_cons rfl rfl (by simp +decide only [aop, abuiltin, aeval, aintBin, bin_int, aload_bump, SS, reduceIte, reduceCtorEq]; exact rfl) (by first | rfl | with_reducible assumption) rfl ?_) | (refine arl_none rfl rfl (by simp +decide only [aop, abuiltin, aeval, aintBin, bin_int, aload_bump, SS, reduceIte, reduceCtorEq]; exact rfl) rfl rfl ?_) | (refine arl_off rfl rfl ?_) | (refine aw_condT (by simp +decide only [aop, abuiltin, aeval, aintBin, bin_int, aload_bump, SS, reduceIte, reduceCtorEq]; first | done | exact rfl) ?_) | (refine aw_condF (by simp +decide only [aop, abuiltin, aeval, aintBin, bin_int, aload_bump, SS, reduceIte, reduceCtorEq]; first | done | exact rfl) ?_))
  refine arl_call rfl rfl rfl rfl rfl rfl ((fnewP (by repeat (first | assumption | (refine WF.bump ?_ _))) most).wf (by repeat (first | assumption | (refine WF.bump ?_ _) | (refine WF.put ?_ (by simp only [n_bump, n_put, n_touch, n_kill] at *; omega) (by simp only [n_bump, n_put, n_touch, n_kill] at *; omega)))) |>.mono ?_)
  rintro r s1 ⟨hw1, hn1, hE1, p, rfl, hpn, hF1⟩
  refine ⟨by first | rfl | with_reducible assumption, ?_⟩
  replace hE1 : Ext st s1 := Keeps.trans (by repeat (first | assumption | exact Keeps.refl _ _ | (refine Keeps.bumpR ?_ _) | (refine Keeps.put ?_ (by assumption) (by simp only [n_bump, n_put, n_touch, n_kill] at *; omega)))) hE1
  have hN1 := hE1.n
  have hp1 : p + 1 ≤ s1.n := hF1.2.1
  simp only [n_bump] at hpn
  repeat (first | (refine aw_seq ?_) | (refine aw_reg0 (by simp only [SZ, Nat.reduceAdd]; exact rfl) ?_) | (refine aw_reg (by decide +kernel) (by simp only [SZ, Nat.reduceAdd]; exact rfl) ?_) | (refine aw_regS (by decide +kernel) (by simp only [SZ, Nat.reduceAdd]; exact rfl) ?_) | (refine arl_nil ?_) | (refine aw_skip ?_) | (refine aw_block ?_) | (refine aw_exit ?_) | (refine aw_ret ?_) | (refine arl_cons rfl rfl (by simp +decide only [aop, abuiltin, aeval, aintBin, bin_int, aload_bump, SS, reduceIte, reduceCtorEq]; exact rfl) (by first | rfl | with_reducible assumption) rfl ?_) | (refine arl_none rfl rfl (by simp +decide only [aop, abuiltin, aeval, aintBin, bin_int, aload_bump, SS, reduceIte, reduceCtorEq]; exact rfl) rfl rfl ?_) | (refine arl_off rfl rfl ?_) | (refine aw_condT (by simp +decide only [aop, abuiltin, aeval, aintBin, bin_int, aload_bump, SS, reduceIte, reduceCtorEq]; first | done | exact rfl) ?_) | (refine aw_condF (by simp +decide only [aop, abuiltin, aeval, aintBin, bin_int, aload_bump, SS, reduceIte, reduceCtorEq]; first | done | exact rfl) ?_))
  refine arl_call rfl rfl rfl rfl rfl rfl ((fnewP (by repeat (first | assumption | (refine WF.bump ?_ _))) most).wf (by repeat (first | assumption | (refine WF.bump ?_ _) | (refine WF.put ?_ (by simp only [n_bump, n_put, n_touch, n_kill] at *; omega) (by simp only [n_bump, n_put, n_touch, n_kill] at *; omega)))) |>.mono ?_)
  rintro r s2 ⟨hw2, hn2, hE2, q, rfl, hqn, hG2⟩
  refine ⟨by first | rfl | with_reducible assumption, ?_⟩
  replace hE2 : Ext s1 s2 := Keeps.trans (by repeat (first | assumption | exact Keeps.refl _ _ | (refine Keeps.bumpR ?_ _) | (refine Keeps.put ?_ (by assumption) (by simp only [n_bump, n_put, n_touch, n_kill] at *; omega)))) hE2
  have hN2 := hE2.n
  have hq1 : q + 1 ≤ s2.n := hG2.2.1
  have hN2 := hE2.n
  have hqn' : s1.n ≤ q := hqn
  replace hF1 := (hF1.up hE2).lift (lo' := s2.n) (by omega) (Nat.le_refl _)
  replace hG2 := hG2.lift (lo' := s2.n) (by omega) (Nat.le_refl _)
  repeat (first | (refine aw_seq ?_) | (refine aw_reg0 (by simp only [SZ, Nat.reduceAdd]; exact rfl) ?_) | (refine aw_reg (by decide +kernel) (by simp only [SZ, Nat.reduceAdd]; exact rfl) ?_) | (refine aw_regS (by decide +kernel) (by simp only [SZ, Nat.reduceAdd]; exact rfl) ?_) | (refine arl_nil ?_) | (refine aw_skip ?_) | (refine aw_block ?_) | (refine aw_exit ?_) | (refine aw_ret ?_) | (refine arl_cons rfl rfl (by simp +decide only [aop, abuiltin, aeval, aintBin, bin_int, aload_bump, SS, reduceIte, reduceCtorEq, pNil]; exact rfl) (by first | rfl | with_reducible assumption) rfl ?_) | (refine arl_none rfl rfl (by simp +decide only [aop, abuiltin, aeval, aintBin, bin_int, aload_bump, SS, reduceIte, reduceCtorEq, pNil]; exact rfl) rfl rfl ?_) | (refine arl_off rfl rfl ?_) | (refine aw_condT (by simp +decide only [aop, abuiltin, aeval, aintBin, bin_int, aload_bump, SS, reduceIte, reduceCtorEq, pNil]; first | done | exact rfl) ?_) | (refine aw_condF (by simp +decide only [aop, abuiltin, aeval, aintBin, bin_int, aload_bump, SS, reduceIte, reduceCtorEq, pNil]; first | done | exact rfl) ?_))
  refine arl_call rfl rfl rfl rfl rfl rfl ((falive_ok (by repeat (first | assumption | (refine WF.bump ?_ _)))).wf (by repeat (first | assumption | (refine WF.bump ?_ _) | (refine WF.put ?_ (by simp only [n_bump, n_put, n_touch, n_kill] at *; omega) (by simp only [n_bump, n_put, n_touch, n_kill] at *; omega)))) |>.mono ?_)
  rintro r s3 ⟨hw3, hn3, hE3, rfl⟩
  refine ⟨by first | rfl | with_reducible assumption, ?_⟩
  replace hE3 : Ext s2 s3 := Keeps.trans (by repeat (first | assumption | exact Keeps.refl _ _ | (refine Keeps.bumpR ?_ _) | (refine Keeps.put ?_ (by assumption) (by simp only [n_bump, n_put, n_touch, n_kill] at *; omega)))) hE3
  have hN3 := hE3.n
  have hN3 := hE3.n
  have hS3 := (hE1.trans hE2).trans hE3
  have hF3 := hF1.up hE3
  have hG3 := hG2.up hE3
  obtain ⟨lo, hlo⟩ : ∃ lo, s2.n = lo := ⟨_, rfl⟩
  rw [hlo] at hF3 hG3
  repeat (first | (refine aw_seq ?_) | (refine aw_reg0 (by simp only [SZ, Nat.reduceAdd]; exact rfl) ?_) | (refine aw_reg (by decide +kernel) (by simp only [SZ, Nat.reduceAdd]; exact rfl) ?_) | (refine aw_regS (by decide +kernel) (by simp only [SZ, Nat.reduceAdd]; exact rfl) ?_) | (refine arl_nil ?_) | (refine aw_skip ?_) | (refine aw_block ?_) | (refine aw_exit ?_) | (refine aw_ret ?_) | (refine arl_cons rfl rfl (by simp +decide only [aop, abuiltin, aeval, aintBin, bin_int, aload_bump, SS, reduceIte, reduceCtorEq, litF0, hln]; exact rfl) (by first | rfl | with_reducible assumption) rfl ?_) | (refine arl_none rfl rfl (by simp +decide only [aop, abuiltin, aeval, aintBin, bin_int, aload_bump, SS, reduceIte, reduceCtorEq, litF0, hln]; exact rfl) rfl rfl ?_) | (refine arl_off rfl rfl ?_) | (refine aw_condT (by simp +decide only [aop, abuiltin, aeval, aintBin, bin_int, aload_bump, SS, reduceIte, reduceCtorEq, litF0, hln]; first | done | exact rfl) ?_) | (refine aw_condF (by simp +decide only [aop, abuiltin, aeval, aintBin, bin_int, aload_bump, SS, reduceIte, reduceCtorEq, litF0, hln]; first | done | exact rfl) ?_))
  refine AW.mono (AW.wf (aw_rounds_wf (fun m fr s => Ext st s ∧ ∃ (k : Nat) (KH KB KO : Nat → Prop) (LO : Nat → Nat → Prop), k ≤ ps.length ∧ m = ps.length - k ∧ fr 0 = i64 most ∧ fr 1 = v ∧ fr 5 = .ptr p 0 ∧ fr 6 = .ptr q 0 ∧ fr 7 ≠ .pl (.slice none 0 0) ∧ fr 8 = i64 (cutS (bndF most) (ps.take k).flatten).2.2 ∧ fr 33 = v ∧ fr 34 = i64 ps.length ∧ fr 35 = i64 k ∧ Fed s lo p KH KB (bndF most) (ps.take k).flatten ∧ Fed s lo q (fun _ => False) (fun _ => False) (bndF most) [] ∧ OwX oRowK s KO LO BT (fr 7) (cutS (bndF most) (ps.take k).flatten).1 ∧ Sep s.n lo KH KB KO LO)
    (Q := fun e fr s => e = .exit 0 ∧ Ext st s ∧ ∃ (KH KB KO : Nat → Prop) (LO : Nat → Nat → Prop), fr 0 = i64 most ∧ fr 1 = v ∧ fr 5 = .ptr p 0 ∧ fr 6 = .ptr q 0 ∧ fr 8 = i64 (cutS (bndF most) ps.flatten).2.2 ∧ Fed s lo p KH KB (bndF most) ps.flatten ∧ Fed s lo q (fun _ => False) (fun _ => False) (bndF most) [] ∧ OwX oRowK s KO LO BT (fr 7) (cutS (bndF most) ps.flatten).1 ∧ Sep s.n lo KH KB KO LO) ?_ ps.length _ _ (by repeat (first | assumption | (refine WF.bump ?_ _) | (refine WF.put ?_ (by simp only [n_bump, n_put, n_touch, n_kill] at *; omega) (by simp only [n_bump, n_put, n_touch, n_kill] at *; omega)))) ?_) (by repeat (first | assumption | (refine WF.bump ?_ _) | (refine WF.put ?_ (by simp only [n_bump, n_put, n_touch, n_kill] at *; omega) (by simp only [n_bump, n_put, n_touch, n_kill] at *; omega))))) ?_
  · rintro m fr sx hwx ⟨hE, k, KH, KB, KO, LO, hk, rfl, f0, f1, f5, f6, f7n, f8, f33, f34, f35, hF, hG, hO, hS⟩
    have hEn := hE.n
    obtain ⟨ov, f7⟩ : ∃ x, fr 7 = x := ⟨_, rfl⟩
    rw [f7] at hO f7n
    have hovs := hO.solid
    by_cases hlt : k < ps.length
    · have d1 : decide ((k : Int) < (ps.length : Int)) = true := decide_eq_true (by omega)
      obtain ⟨a, c, a1, a2, a3, a4, a5⟩ := row_at (h.up hE) .i64 k hlt
      have hcl := a5.len
      have hfl1 := flatF_le ps (k + 1)
      rw [flatF_succ ps k hlt, List.length_append] at hfl1
      have hlx : lo ≤ sx.n := hF.2.1
      have hplo : p < lo := hF.1
      have hKB : ∀ g, KB g → lo ≤ g ∧ g < sx.n := hF.2.2.2.1
      have hKH : ∀ g, KH g → lo ≤ g ∧ g < sx.n := hF.2.2.1
      repeat (first | (refine aw_seq ?_) | (refine aw_reg0 (by simp only [SZ, Nat.reduceAdd]; exact rfl) ?_) | (refine aw_reg (by decide +kernel) (by simp only [SZ, Nat.reduceAdd]; exact rfl) ?_) | (refine aw_regS (by decide +kernel) (by simp only [SZ, Nat.reduceAdd]; exact rfl) ?_) | (refine arl_nil ?_) | (refine aw_skip ?_) | (refine aw_block ?_) | (refine aw_exit ?_) | (refine aw_ret ?_) | (refine arl_cons rfl rfl (by simp +decide only [aop, abuiltin, aeval, aintBin, bin_int, aload_bump, SS, reduceIte, reduceCtorEq, f35, f34, d1, f33, a1, a3, f5]; exact rfl) (by first | rfl | with_reducible assumption) rfl ?_) | (refine arl_none rfl rfl (by simp +decide only [aop, abuiltin, aeval, aintBin, bin_int, aload_bump, SS, reduceIte, reduceCtorEq, f35, f34, d1, f33, a1, a3, f5]; exact rfl) rfl rfl ?_) | (refine arl_off rfl rfl ?_) | (refine aw_condT (by simp +decide only [aop, abuiltin, aeval, aintBin, bin_int, aload_bump, SS, reduceIte, reduceCtorEq, f35, f34, d1, f33, a1, a3, f5]; first | done | exact rfl) ?_) | (refine aw_condF (by simp +decide only [aop, abuiltin, aeval, aintBin, bin_int, aload_bump, SS, reduceIte, reduceCtorEq, f35, f34, d1, f33, a1, a3, f5]; first | done | exact rfl) ?_))
      refine arl_call rfl rfl rfl rfl rfl rfl ((copy_ok (by repeat (first | assumption | (refine WF.bump ?_ _))) (a5.up (by repeat (first | exact Keeps.refl _ _ | (refine Keeps.bumpR ?_ _)))) (by omega)).wf (by repeat (first | assumption | (refine WF.bump ?_ _) | (refine WF.put ?_ (by simp only [n_bump, n_put, n_touch, n_kill] at *; omega) (by simp only [n_bump, n_put, n_touch, n_kill] at *; omega)))) |>.mono ?_)
      rintro cv s4 ⟨hw4, hn4, hE4, hcs, hC⟩
      refine ⟨by first | rfl | with_reducible assumption, ?_⟩
      replace hE4 : Ext sx s4 := Keeps.trans (by repeat (first | assumption | exact Keeps.refl _ _ | (refine Keeps.bumpR ?_ _) | (refine Keeps.put ?_ (by assumption) (by simp only [n_bump, n_put, n_touch, n_kill] at *; omega)))) hE4
      have hN4 := hE4.n
      replace hC := hC.rd.lt hw4
      have hbyA : ∀ x ∈ (ps.take k).flatten ++ ps[k], 0 ≤ x ∧ x < 256 := fun x hx => by
        rw [← flatF_succ ps k hlt] at hx
        obtain ⟨l, hl, hx⟩ := List.mem_flatten.1 hx
        exact hby l (List.mem_of_mem_take hl) x hx
      repeat (first | (refine aw_seq ?_) | (refine aw_reg0 (by simp only [SZ, Nat.reduceAdd]; exact rfl) ?_) | (refine aw_reg (by decide +kernel) (by simp only [SZ, Nat.reduceAdd]; exact rfl) ?_) | (refine aw_regS (by decide +kernel) (by simp only [SZ, Nat.reduceAdd]; exact rfl) ?_) | (refine arl_nil ?_) | (refine aw_skip ?_) | (refine aw_block ?_) | (refine aw_exit ?_) | (refine aw_ret ?_) | (refine arl_cons rfl rfl (by simp +decide only [aop, abuiltin, aeval, aintBin, bin_int, aload_bump, SS, reduceIte, reduceCtorEq]; exact rfl) (by first | rfl | with_reducible assumption) rfl ?_) | (refine arl_none rfl rfl (by simp +decide only [aop, abuiltin, aeval, aintBin, bin_int, aload_bump, SS, reduceIte, reduceCtorEq]; exact rfl) rfl rfl ?_) | (refine arl_off rfl rfl ?_) | (refine aw_condT (by simp +decide only [aop, abuiltin, aeval, aintBin, bin_int, aload_bump, SS, reduceIte, reduceCtorEq]; first | done | exact rfl) ?_) | (refine aw_condF (by simp +decide only [aop, abuiltin, aeval, aintBin, bin_int, aload_bump, SS, reduceIte, reduceCtorEq]; first | done | exact rfl) ?_))
      refine arl_call rfl rfl rfl rfl rfl rfl ((fed_ok (by repeat (first | assumption | (refine WF.bump ?_ _))) ((hF.up hE4).up (by repeat (first | exact Keeps.refl _ _ | (refine Keeps.bumpR ?_ _)))) hM.2 (hC.up (by repeat (first | exact Keeps.refl _ _ | (refine Keeps.bumpR ?_ _)))) (fun g hg => ⟨fun h => by have := hKH g h; have := hg.1; simp only [n_bump] at this; omega, fun h => by have := hKB g h; have := hg.1; simp only [n_bump] at this; omega, by have := hg.1; simp only [n_bump] at this; omega⟩) hbyA (by omega)).wf (by repeat (first | assumption | (refine WF.bump ?_ _) | (refine WF.put ?_ (by simp only [n_bump, n_put, n_touch, n_kill] at *; omega) (by simp only [n_bump, n_put, n_touch, n_kill] at *; omega)))) |>.mono ?_)
      rintro res s5 ⟨hw5, hn5, hE5, x, KX, KH', KB', L, fs, rfl, hxs, hX, hGr, hfs, hnf, hF5⟩
      refine ⟨rfl, ?_⟩
      replace hE5 : Keeps (fun g => g = p ∨ KH g ∨ KB g) s4 s5 := Keeps.trans (Keeps.mono (G := fun _ => False) (show Ext s4 _ from (by repeat (first | exact Keeps.refl _ _ | (refine Keeps.bumpR ?_ _)))) (fun _ h => h.elim)) hE5
      have hN4 := hE4.n
      have hN5 := hE5.n
      have hcl5 := (cut_lens (bndF most) ((ps.take k).flatten ++ ps[k])).1
      rw [hfs, List.length_append, List.length_append] at hcl5
      have hsz : (cutS (bndF most) (ps.take k).flatten).1.length + fs.length ≤ 1048576 := by omega
      have hT5 : Ext st s5 := Keeps.call (hE.trans hE4) hE5 hw (fun g hg => .inr (by rcases hg with h | h | h; omega; have := hKH g h; omega; have := hKB g h; omega))
      have hO5 := (hO.up hE4).keep hE5 (fun g hg h => by have := hS.o g hg; rcases h with h | h | h; omega; exact this.2.2.1 h; exact this.2.2.2 h) (fun j g hg h => by have := hS.l j g hg; rcases h with h | h | h; omega; exact this.2.2.1 h; exact this.2.2.2 h)
      have hG5 := (hG.up hE4).keep hE5 (fun h => by have := hG.1; rcases h with h | h | h; omega; have := hKH q h; omega; have := hKB q h; omega) (fun _ h => h.elim) (fun _ h => h.elim)
      obtain ⟨hS5, hxx⟩ := hS.step (c := (cutS (bndF most) (ps.take k).flatten).1.length) hGr hKB (by omega) (by omega) hlx
      have hlnx := RdE.len hX.rd TRo
      have hq1 : (cutS (bndF most) (ps.take k).flatten).2.2 ≠ 0 → (((fs.length : Int) != 0) = false ∧ ((cutS (bndF most) ((ps.take k).flatten ++ ps[k])).2.2 != (cutS (bndF most) (ps.take k).flatten).2.2) = false) := fun hne => by
        refine ⟨by rw [hnf hne]; simp, ?_⟩
        have := cutS_app (bndF most) ps[k] _ (ps.take k).flatten (Nat.le_refl _)
        rw [if_neg hne] at this
        rw [this]
        simp
      obtain ⟨e0, he0⟩ : ∃ e0, (cutS (bndF most) (ps.take k).flatten).2.2 = e0 := ⟨_, rfl⟩
      obtain ⟨e1, he1⟩ : ∃ e1, (cutS (bndF most) ((ps.take k).flatten ++ ps[k])).2.2 = e1 := ⟨_, rfl⟩
      rw [he0] at f8 hq1 hnf
      rw [he1] at hq1 ⊢
      have key : (e0 != 0) = false ∨ ((e0 != 0) = true ∧ ((fs.length : Int) != 0) = false ∧ (e1 != e0) = false) := by
        by_cases hz : e0 = 0
        · exact .inl (by simp [hz])
        · exact .inr ⟨by simp [hz], hq1 hz⟩
      rcases key with k1 | ⟨k1, k2, k3⟩
      · repeat (first | (refine aw_seq ?_) | (refine aw_reg0 (by simp only [SZ, Nat.reduceAdd]; exact rfl) ?_) | (refine aw_reg (by decide +kernel) (by simp only [SZ, Nat.reduceAdd]; exact rfl) ?_) | (refine aw_regS (by decide +kernel) (by simp only [SZ, Nat.reduceAdd]; exact rfl) ?_) | (refine arl_nil ?_) | (refine aw_skip ?_) | (refine aw_block ?_) | (refine aw_exit ?_) | (refine aw_ret ?_) | (refine arl_cons rfl rfl (by simp +decide only [aop, abuiltin, aeval, aintBin, bin_int, aload_bump, SS, reduceIte, reduceCtorEq, f8, k1, f7]; exact rfl) (by first | rfl | with_reducible assumption) rfl ?_) | (refine arl_none rfl rfl (by simp +decide only [aop, abuiltin, aeval, aintBin, bin_int, aload_bump, SS, reduceIte, reduceCtorEq, f8, k1, f7]; exact rfl) rfl rfl ?_) | (refine arl_off rfl rfl ?_) | (refine aw_condT (by simp +decide only [aop, abuiltin, aeval, aintBin, bin_int, aload_bump, SS, reduceIte, reduceCtorEq, f8, k1, f7]; first | done | exact rfl) ?_) | (refine aw_condF (by simp +decide only [aop, abuiltin, aeval, aintBin, bin_int, aload_bump, SS, reduceIte, reduceCtorEq, f8, k1, f7]; first | done | exact rfl) ?_))
        refine arl_appZ (k := oRowK) (a := 58) (c := 59) (xs := (cutS (bndF most) (ps.take k).flatten).1) (ns := fs) (K := KO) TRo rfl rfl rfl (hO5.up (by repeat (first | exact Keeps.refl _ _ | (refine Keeps.bumpR ?_ _)))) (hX.up (by repeat (first | exact Keeps.refl _ _ | (refine Keeps.bumpR ?_ _)))) hxx ⟨fun j hj => by rcases hGr.l j _ hj with h | h; have := hKB _ h; simp only [n_bump] at *; omega; simp only [n_bump] at *; omega, fun h => absurd h f7n⟩ (fun _ h => h) (fresh hw5 (by first | omega | (simp only [n_bump, n_put]; omega) | (simp only [n_bump, n_put] at *; omega))) (by clear hcl5; omega) (by clear hcl5; omega) ?_
        intro y s6 hO6 hn6 hK6 hwf6 hyn
        have hw6 : WF s6 := hwf6 (by repeat (first | assumption | (refine WF.bump ?_ _))) (by simp only [n_bump, n_put, n_touch, n_kill] at *; omega)
        have hys := hO6.solid
        replace hK6 : Keeps KO s5 s6 := Keeps.trans (Keeps.mono (G := fun _ => False) (show Ext s5 _ from (by repeat (first | exact Keeps.refl _ _ | (refine Keeps.bumpR ?_ _)))) (fun _ h => h.elim)) hK6
        have hwk := wrap_succ (k := k) (by omega)
        repeat (first | (refine aw_seq ?_) | (refine aw_reg0 (by simp only [SZ, Nat.reduceAdd]; exact rfl) ?_) | (refine aw_reg (by decide +kernel) (by simp only [SZ, Nat.reduceAdd]; exact rfl) ?_) | (refine aw_regS (by decide +kernel) (by simp only [SZ, Nat.reduceAdd]; exact rfl) ?_) | (refine arl_nil ?_) | (refine aw_skip ?_) | (refine aw_block ?_) | (refine aw_exit ?_) | (refine aw_ret ?_) | (refine arl_cons rfl rfl (by simp +decide only [aop, abuiltin, aeval, aintBin, bin_int, aload_bump, SS, reduceIte, reduceCtorEq, f35, hwk]; exact rfl) (by first | rfl | with_reducible assumption) rfl ?_) | (refine arl_none rfl rfl (by simp +decide only [aop, abuiltin, aeval, aintBin, bin_int, aload_bump, SS, reduceIte, reduceCtorEq, f35, hwk]; exact rfl) rfl rfl ?_) | (refine arl_off rfl rfl ?_) | (refine aw_condT (by simp +decide only [aop, abuiltin, aeval, aintBin, bin_int, aload_bump, SS, reduceIte, reduceCtorEq, f35, hwk]; first | done | exact rfl) ?_) | (refine aw_condF (by simp +decide only [aop, abuiltin, aeval, aintBin, bin_int, aload_bump, SS, reduceIte, reduceCtorEq, f35, hwk]; first | done | exact rfl) ?_))
        simp only [n_bump] at hn6
        refine ⟨ps.length - (k + 1), by omega, (Keeps.call hT5 hK6 hw (fun g hg => .inr (by have := hS.o g hg; omega))).trans (by repeat (first | exact Keeps.refl _ _ | (refine Keeps.bumpR ?_ _))), k + 1, KH', KB', KO, _, by omega, rfl, f0, f1, f5, f6, ?_, ?_, f33, f34, rfl, ?_, ?_, ?_, hS5.more (by first | omega | (simp only [n_bump, n_put]; omega) | (simp only [n_bump, n_put] at *; omega))⟩
        · exact hyn f7n
        · rw [flatF_succ ps k hlt, he1]; rfl
        · rw [flatF_succ ps k hlt]
          exact (hF5.keep hK6 (fun hg => by have := hS.o _ hg; omega) (fun g hg hg' => (hS5.o g hg').2.2.1 hg) (fun g hg hg' => (hS5.o g hg').2.2.2 hg)).up (by repeat (first | exact Keeps.refl _ _ | (refine Keeps.bumpR ?_ _)))
        · exact (hG5.keep hK6 (fun hg => by have := hS.o _ hg; have := hG.1; omega) (fun _ h => h.elim) (fun _ h => h.elim)).up (by repeat (first | exact Keeps.refl _ _ | (refine Keeps.bumpR ?_ _)))
        · rw [flatF_succ ps k hlt, hfs]
          exact hO6.up (by repeat (first | exact Keeps.refl _ _ | (refine Keeps.bumpR ?_ _)))
      · repeat (first | (refine aw_seq ?_) | (refine aw_reg0 (by simp only [SZ, Nat.reduceAdd]; exact rfl) ?_) | (refine aw_reg (by decide +kernel) (by simp only [SZ, Nat.reduceAdd]; exact rfl) ?_) | (refine aw_regS (by decide +kernel) (by simp only [SZ, Nat.reduceAdd]; exact rfl) ?_) | (refine arl_nil ?_) | (refine aw_skip ?_) | (refine aw_block ?_) | (refine aw_exit ?_) | (refine aw_ret ?_) | (refine arl_cons rfl rfl (by simp +decide only [aop, abuiltin, aeval, aintBin, bin_int, aload_bump, SS, reduceIte, reduceCtorEq, f8, k1, hlnx, k2, k3, f7]; exact rfl) (by first | rfl | with_reducible assumption) rfl ?_) | (refine arl_none rfl rfl (by simp +decide only [aop, abuiltin, aeval, aintBin, bin_int, aload_bump, SS, reduceIte, reduceCtorEq, f8, k1, hlnx, k2, k3, f7]; exact rfl) rfl rfl ?_) | (refine arl_off rfl rfl ?_) | (refine aw_condT (by simp +decide only [aop, abuiltin, aeval, aintBin, bin_int, aload_bump, SS, reduceIte, reduceCtorEq, f8, k1, hlnx, k2, k3, f7]; first | done | exact rfl) ?_) | (refine aw_condF (by simp +decide only [aop, abuiltin, aeval, aintBin, bin_int, aload_bump, SS, reduceIte, reduceCtorEq, f8, k1, hlnx, k2, k3, f7]; first | done | exact rfl) ?_))
        refine arl_appZ (k := oRowK) (a := 58) (c := 59) (xs := (cutS (bndF most) (ps.take k).flatten).1) (ns := fs) (K := KO) TRo rfl rfl rfl (hO5.up (by repeat (first | exact Keeps.refl _ _ | (refine Keeps.bumpR ?_ _)))) (hX.up (by repeat (first | exact Keeps.refl _ _ | (refine Keeps.bumpR ?_ _)))) hxx ⟨fun j hj => by rcases hGr.l j _ hj with h | h; have := hKB _ h; simp only [n_bump] at *; omega; simp only [n_bump] at *; omega, fun h => absurd h f7n⟩ (fun _ h => h) (fresh hw5 (by first | omega | (simp only [n_bump, n_put]; omega) | (simp only [n_bump, n_put] at *; omega))) (by clear hcl5; omega) (by clear hcl5; omega) ?_
        intro y s6 hO6 hn6 hK6 hwf6 hyn
        have hw6 : WF s6 := hwf6 (by repeat (first | assumption | (refine WF.bump ?_ _))) (by simp only [n_bump, n_put, n_touch, n_kill] at *; omega)
        have hys := hO6.solid
        replace hK6 : Keeps KO s5 s6 := Keeps.trans (Keeps.mono (G := fun _ => False) (show Ext s5 _ from (by repeat (first | exact Keeps.refl _ _ | (refine Keeps.bumpR ?_ _)))) (fun _ h => h.elim)) hK6
        have hwk := wrap_succ (k := k) (by omega)
        repeat (first | (refine aw_seq ?_) | (refine aw_reg0 (by simp only [SZ, Nat.reduceAdd]; exact rfl) ?_) | (refine aw_reg (by decide +kernel) (by simp only [SZ, Nat.reduceAdd]; exact rfl) ?_) | (refine aw_regS (by decide +kernel) (by simp only [SZ, Nat.reduceAdd]; exact rfl) ?_) | (refine arl_nil ?_) | (refine aw_skip ?_) | (refine aw_block ?_) | (refine aw_exit ?_) | (refine aw_ret ?_) | (refine arl_cons rfl rfl (by simp +decide only [aop, abuiltin, aeval, aintBin, bin_int, aload_bump, SS, reduceIte, reduceCtorEq, f35, hwk]; exact rfl) (by first | rfl | with_reducible assumption) rfl ?_) | (refine arl_none rfl rfl (by simp +decide only [aop, abuiltin, aeval, aintBin, bin_int, aload_bump, SS, reduceIte, reduceCtorEq, f35, hwk]; exact rfl) rfl rfl ?_) | (refine arl_off rfl rfl ?_) | (refine aw_condT (by simp +decide only [aop, abuiltin, aeval, aintBin, bin_int, aload_bump, SS, reduceIte, reduceCtorEq, f35, hwk]; first | done | exact rfl) ?_) | (refine aw_condF (by simp +decide only [aop, abuiltin, aeval, aintBin, bin_int, aload_bump, SS, reduceIte, reduceCtorEq, f35, hwk]; first | done | exact rfl) ?_))
        simp only [n_bump] at hn6
        refine ⟨ps.length - (k + 1), by omega, (Keeps.call hT5 hK6 hw (fun g hg => .inr (by have := hS.o g hg; omega))).trans (by repeat (first | exact Keeps.refl _ _ | (refine Keeps.bumpR ?_ _))), k + 1, KH', KB', KO, _, by omega, rfl, f0, f1, f5, f6, ?_, ?_, f33, f34, rfl, ?_, ?_, ?_, hS5.more (by first | omega | (simp only [n_bump, n_put]; omega) | (simp only [n_bump, n_put] at *; omega))⟩
        · exact hyn f7n
        · rw [flatF_succ ps k hlt, he1]; rfl
        · rw [flatF_succ ps k hlt]
          exact (hF5.keep hK6 (fun hg => by have := hS.o _ hg; omega) (fun g hg hg' => (hS5.o g hg').2.2.1 hg) (fun g hg hg' => (hS5.o g hg').2.2.2 hg)).up (by repeat (first | exact Keeps.refl _ _ | (refine Keeps.bumpR ?_ _)))
        · exact (hG5.keep hK6 (fun hg => by have := hS.o _ hg; have := hG.1; omega) (fun _ h => h.elim) (fun _ h => h.elim)).up (by repeat (first | exact Keeps.refl _ _ | (refine Keeps.bumpR ?_ _)))
        · rw [flatF_succ ps k hlt, hfs]
          exact hO6.up (by repeat (first | exact Keeps.refl _ _ | (refine Keeps.bumpR ?_ _)))
    · have d1 : decide ((k : Int) < (ps.length : Int)) = false := decide_eq_false (by omega)
      obtain rfl : k = ps.length := by omega
      rw [List.take_length] at f8 hF hO
      repeat (first | (refine aw_seq ?_) | (refine aw_reg0 (by simp only [SZ, Nat.reduceAdd]; exact rfl) ?_) | (refine aw_reg (by decide +kernel) (by simp only [SZ, Nat.reduceAdd]; exact rfl) ?_) | (refine aw_regS (by decide +kernel) (by simp only [SZ, Nat.reduceAdd]; exact rfl) ?_) | (refine arl_nil ?_) | (refine aw_skip ?_) | (refine aw_block ?_) | (refine aw_exit ?_) | (refine aw_ret ?_) | (refine arl_cons rfl rfl (by simp +decide only [aop, abuiltin, aeval, aintBin, bin_int, aload_bump, SS, reduceIte, reduceCtorEq, f35, f34, d1]; exact rfl) (by first | rfl | with_reducible assumption) rfl ?_) | (refine arl_none rfl rfl (by simp +decide only [aop, abuiltin, aeval, aintBin, bin_int, aload_bump, SS, reduceIte, reduceCtorEq, f35, f34, d1]; exact rfl) rfl rfl ?_) | (refine arl_off rfl rfl ?_) | (refine aw_condT (by simp +decide only [aop, abuiltin, aeval, aintBin, bin_int, aload_bump, SS, reduceIte, reduceCtorEq, f35, f34, d1]; first | done | exact rfl) ?_) | (refine aw_condF (by simp +decide only [aop, abuiltin, aeval, aintBin, bin_int, aload_bump, SS, reduceIte, reduceCtorEq, f35, f34, d1]; first | done | exact rfl) ?_))
      exact ⟨rfl, hE.trans (by repeat (first | exact Keeps.refl _ _ | (refine Keeps.bumpR ?_ _))), KH, KB, KO, LO, f0, f1, f5, f6, f8, hF.up (by repeat (first | exact Keeps.refl _ _ | (refine Keeps.bumpR ?_ _))), hG.up (by repeat (first | exact Keeps.refl _ _ | (refine Keeps.bumpR ?_ _))), by show OwX _ _ _ _ _ (fr 7) _; rw [f7]; exact hO.up (by repeat (first | exact Keeps.refl _ _ | (refine Keeps.bumpR ?_ _))), hS.more (by first | omega | (simp only [n_bump, n_put]; omega) | (simp only [n_bump, n_put] at *; omega))⟩
  · refine ⟨hS3.trans (by repeat (first | assumption | exact Keeps.refl _ _ | (refine Keeps.bumpR ?_ _) | (refine Keeps.put ?_ (by assumption) (by simp only [n_bump, n_put, n_touch, n_kill] at *; omega)))), 0, fun _ => False, fun _ => False, fun g => g = s3.n + 0, fun _ _ => False, by omega, rfl, rfl, rfl, rfl, rfl, ?_, ?_, rfl, rfl, rfl, ?_, ?_, ?_, ?_⟩
    · intro h; cases h
    · rw [List.take_zero]; rfl
    · rw [List.take_zero]; exact hF3.up (by repeat (first | assumption | exact Keeps.refl _ _ | (refine Keeps.bumpR ?_ _) | (refine Keeps.put ?_ (by assumption) (by simp only [n_bump, n_put, n_touch, n_kill] at *; omega))))
    · exact hG3.up (by repeat (first | assumption | exact Keeps.refl _ _ | (refine Keeps.bumpR ?_ _) | (refine Keeps.put ?_ (by assumption) (by simp only [n_bump, n_put, n_touch, n_kill] at *; omega))))
    · rw [List.take_zero, List.flatten_nil, cutS_nil]
      exact (OwX.new' (k := oRowK) _ (get_put _ _))
    · refine ⟨fun g hg => ⟨by omega, by simp only [n_bump, n_put]; omega, fun h => h, fun h => h⟩, fun _ _ h => h.elim, fun _ _ _ h => h.elim, fun _ _ _ h => h.elim⟩
  rintro e fr sx ⟨hwx, hnx, rfl, hE, KH, KB, KO, LO, f0, f1, f5, f6, f8, hF, hG, hO, hS⟩
  have hEn := hE.n
  have hlx : lo ≤ sx.n := hF.2.1
  have hplo : p < lo := hF.1
  have hqlo : q < lo := hG.1
  have hKB : ∀ g, KB g → lo ≤ g ∧ g < sx.n := hF.2.2.2.1
  have hKH : ∀ g, KH g → lo ≤ g ∧ g < sx.n := hF.2.2.1
  have hcl := cut_lens (bndF most) ps.flatten
  obtain ⟨ov, f7⟩ : ∃ x, fr 7 = x := ⟨_, rfl⟩
  rw [f7] at hO
  have hovs := hO.solid
  repeat (first | (refine aw_seq ?_) | (refine aw_reg0 (by simp only [SZ, Nat.reduceAdd]; exact rfl) ?_) | (refine aw_reg (by decide +kernel) (by simp only [SZ, Nat.reduceAdd]; exact rfl) ?_) | (refine aw_regS (by decide +kernel) (by simp only [SZ, Nat.reduceAdd]; exact rfl) ?_) | (refine arl_nil ?_) | (refine aw_skip ?_) | (refine aw_block ?_) | (refine aw_exit ?_) | (refine aw_ret ?_) | (refine arl_cons rfl rfl (by simp +decide only [aop, abuiltin, aeval, aintBin, bin_int, aload_bump, SS, reduceIte, reduceCtorEq, f1]; exact rfl) (by first | rfl | with_reducible assumption) rfl ?_) | (refine arl_none rfl rfl (by simp +decide only [aop, abuiltin, aeval, aintBin, bin_int, aload_bump, SS, reduceIte, reduceCtorEq, f1]; exact rfl) rfl rfl ?_) | (refine arl_off rfl rfl ?_) | (refine aw_condT (by simp +decide only [aop, abuiltin, aeval, aintBin, bin_int, aload_bump, SS, reduceIte, reduceCtorEq, f1]; first | done | exact rfl) ?_) | (refine aw_condF (by simp +decide only [aop, abuiltin, aeval, aintBin, bin_int, aload_bump, SS, reduceIte, reduceCtorEq, f1]; first | done | exact rfl) ?_))
  refine arl_call rfl rfl rfl rfl rfl rfl ((rall_ok (by repeat (first | assumption | (refine WF.bump ?_ _))) ((h.up hE).up (by repeat (first | exact Keeps.refl _ _ | (refine Keeps.bumpR ?_ _)))) (by omega)).wf (by repeat (first | assumption | (refine WF.bump ?_ _) | (refine WF.put ?_ (by simp only [n_bump, n_put, n_touch, n_kill] at *; omega) (by simp only [n_bump, n_put, n_touch, n_kill] at *; omega)))) |>.mono ?_)
  rintro av s4 ⟨hw4, hn4, hE4, has, hA⟩
  refine ⟨by first | rfl | with_reducible assumption, ?_⟩
  replace hE4 : Ext sx s4 := Keeps.trans (by repeat (first | assumption | exact Keeps.refl _ _ | (refine Keeps.bumpR ?_ _) | (refine Keeps.put ?_ (by assumption) (by simp only [n_bump, n_put, n_touch, n_kill] at *; omega)))) hE4
  have hN4 := hE4.n
  replace hA := hA.rd.lt hw4
  have hN4 := hE4.n
  repeat (first | (refine aw_seq ?_) | (refine aw_reg0 (by simp only [SZ, Nat.reduceAdd]; exact rfl) ?_) | (refine aw_reg (by decide +kernel) (by simp only [SZ, Nat.reduceAdd]; exact rfl) ?_) | (refine aw_regS (by decide +kernel) (by simp only [SZ, Nat.reduceAdd]; exact rfl) ?_) | (refine arl_nil ?_) | (refine aw_skip ?_) | (refine aw_block ?_) | (refine aw_exit ?_) | (refine aw_ret ?_) | (refine arl_cons rfl rfl (by simp +decide only [aop, abuiltin, aeval, aintBin, bin_int, aload_bump, SS, reduceIte, reduceCtorEq, f6]; exact rfl) (by first | rfl | with_reducible assumption) rfl ?_) | (refine arl_none rfl rfl (by simp +decide only [aop, abuiltin, aeval, aintBin, bin_int, aload_bump, SS, reduceIte, reduceCtorEq, f6]; exact rfl) rfl rfl ?_) | (refine arl_off rfl rfl ?_) | (refine aw_condT (by simp +decide only [aop, abuiltin, aeval, aintBin, bin_int, aload_bump, SS, reduceIte, reduceCtorEq, f6]; first | done | exact rfl) ?_) | (refine aw_condF (by simp +decide only [aop, abuiltin, aeval, aintBin, bin_int, aload_bump, SS, reduceIte, reduceCtorEq, f6]; first | done | exact rfl) ?_))
  refine arl_call rfl rfl rfl rfl rfl rfl ((copy_ok (by repeat (first | assumption | (refine WF.bump ?_ _))) (hA.up (by repeat (first | exact Keeps.refl _ _ | (refine Keeps.bumpR ?_ _)))) (by omega)).wf (by repeat (first | assumption | (refine WF.bump ?_ _) | (refine WF.put ?_ (by simp only [n_bump, n_put, n_touch, n_kill] at *; omega) (by simp only [n_bump, n_put, n_touch, n_kill] at *; omega)))) |>.mono ?_)
  rintro cv s5 ⟨hw5, hn5, hE5, hcs, hC⟩
  refine ⟨by first | rfl | with_reducible assumption, ?_⟩
  replace hE5 : Ext s4 s5 := Keeps.trans (by repeat (first | assumption | exact Keeps.refl _ _ | (refine Keeps.bumpR ?_ _) | (refine Keeps.put ?_ (by assumption) (by simp only [n_bump, n_put, n_touch, n_kill] at *; omega)))) hE5
  have hN5 := hE5.n
  replace hC := hC.rd.lt hw5
  have hN5 := hE5.n
  repeat (first | (refine aw_seq ?_) | (refine aw_reg0 (by simp only [SZ, Nat.reduceAdd]; exact rfl) ?_) | (refine aw_reg (by decide +kernel) (by simp only [SZ, Nat.reduceAdd]; exact rfl) ?_) | (refine aw_regS (by decide +kernel) (by simp only [SZ, Nat.reduceAdd]; exact rfl) ?_) | (refine arl_nil ?_) | (refine aw_skip ?_) | (refine aw_block ?_) | (refine aw_exit ?_) | (refine aw_ret ?_) | (refine arl_cons rfl rfl (by simp +decide only [aop, abuiltin, aeval, aintBin, bin_int, aload_bump, SS, reduceIte, reduceCtorEq]; exact rfl) (by first | rfl | with_reducible assumption) rfl ?_) | (refine arl_none rfl rfl (by simp +decide only [aop, abuiltin, aeval, aintBin, bin_int, aload_bump, SS, reduceIte, reduceCtorEq]; exact rfl) rfl rfl ?_) | (refine arl_off rfl rfl ?_) | (refine aw_condT (by simp +decide only [aop, abuiltin, aeval, aintBin, bin_int, aload_bump, SS, reduceIte, reduceCtorEq]; first | done | exact rfl) ?_) | (refine aw_condF (by simp +decide only [aop, abuiltin, aeval, aintBin, bin_int, aload_bump, SS, reduceIte, reduceCtorEq]; first | done | exact rfl) ?_))
  refine arl_call rfl rfl rfl rfl rfl rfl ((fed_ok (by repeat (first | assumption | (refine WF.bump ?_ _))) (((hG.up hE4).up hE5).up (by repeat (first | exact Keeps.refl _ _ | (refine Keeps.bumpR ?_ _)))) hM.2 (hC.up (by repeat (first | exact Keeps.refl _ _ | (refine Keeps.bumpR ?_ _)))) (fun g hg => ⟨fun h => h, fun h => h, by have := hg.1; simp only [n_bump] at this; omega⟩) (fun x hx => hby' x (by simpa using hx)) (by simp only [List.length_nil]; omega)).wf (by repeat (first | assumption | (refine WF.bump ?_ _) | (refine WF.put ?_ (by simp only [n_bump, n_put, n_touch, n_kill] at *; omega) (by simp only [n_bump, n_put, n_touch, n_kill] at *; omega)))) |>.mono ?_)
  rintro res s6 ⟨hw6, hn6, hE6, x, KX, KH2, KB2, L2, fs, rfl, hxs, hX, hGr, hfs, -, hF6⟩
  refine ⟨rfl, ?_⟩
  rw [List.nil_append] at hfs hF6 ⊢
  rw [cutS_nil] at hfs
  simp only [List.nil_append] at hfs
  replace hE6 : Keeps (fun g => g = q ∨ False ∨ False) s5 s6 := Keeps.trans (Keeps.mono (G := fun _ => False) (show Ext s5 _ from (by repeat (first | exact Keeps.refl _ _ | (refine Keeps.bumpR ?_ _)))) (fun _ h => h.elim)) hE6
  have hN6 := hE6.n
  have hnq : ∀ {g}, lo ≤ g → ¬ (g = q ∨ False ∨ False) := fun hg h => by rcases h with h | h | h; omega; exact h; exact h
  have hT6 : Ext st s6 := Keeps.call ((hE.trans hE4).trans hE5) hE6 hw (fun g hg => .inr (by rcases hg with h | h | h; omega; exact h.elim; exact h.elim))
  have hA6 := (hA.up hE5).keep hE6 (fun g hg => hnq (by have := hg.1; simp only [n_bump] at this; omega))
  have hO6 := ((hO.up hE4).up hE5).keep hE6 (fun g hg => hnq (hS.o g hg).1) (fun j g hg => hnq (hS.l j g hg).1)
  have hP6 := ((hF.up hE4).up hE5).keep hE6 (fun h => by rcases h with h | h | h; omega; exact h; exact h) (fun g hg => hnq (hKH g hg).1) (fun g hg => hnq (hKB g hg).1)
  repeat (first | (refine aw_seq ?_) | (refine aw_reg0 (by simp only [SZ, Nat.reduceAdd]; exact rfl) ?_) | (refine aw_reg (by decide +kernel) (by simp only [SZ, Nat.reduceAdd]; exact rfl) ?_) | (refine aw_regS (by decide +kernel) (by simp only [SZ, Nat.reduceAdd]; exact rfl) ?_) | (refine arl_nil ?_) | (refine aw_skip ?_) | (refine aw_block ?_) | (refine aw_exit ?_) | (refine aw_ret ?_) | (refine arl_cons rfl rfl (by simp +decide only [aop, abuiltin, aeval, aintBin, bin_int, aload_bump, SS, reduceIte, reduceCtorEq, f0]; exact rfl) (by first | rfl | with_reducible assumption) rfl ?_) | (refine arl_none rfl rfl (by simp +decide only [aop, abuiltin, aeval, aintBin, bin_int, aload_bump, SS, reduceIte, reduceCtorEq, f0]; exact rfl) rfl rfl ?_) | (refine arl_off rfl rfl ?_) | (refine aw_condT (by simp +decide only [aop, abuiltin, aeval, aintBin, bin_int, aload_bump, SS, reduceIte, reduceCtorEq, f0]; first | done | exact rfl) ?_) | (refine aw_condF (by simp +decide only [aop, abuiltin, aeval, aintBin, bin_int, aload_bump, SS, reduceIte, reduceCtorEq, f0]; first | done | exact rfl) ?_))
  refine arl_call rfl rfl rfl rfl rfl rfl ((copy_ok (by repeat (first | assumption | (refine WF.bump ?_ _))) (hA6.up (by repeat (first | exact Keeps.refl _ _ | (refine Keeps.bumpR ?_ _)))) (by omega)).dead.wf (by repeat (first | assumption | (refine WF.bump ?_ _) | (refine WF.put ?_ (by simp only [n_bump, n_put, n_touch, n_kill] at *; omega) (by simp only [n_bump, n_put, n_touch, n_kill] at *; omega)))) |>.mono ?_)
  rintro dv s7 ⟨hw7, hn7, hd7, hE7, hds, hD⟩
  refine ⟨hds, ?_⟩
  replace hE7 : Ext s6 s7 := Keeps.trans (show Ext s6 _ from (by repeat (first | exact Keeps.refl _ _ | (refine Keeps.bumpR ?_ _)))) hE7
  have hN7 := hE7.n
  repeat (first | (refine aw_seq ?_) | (refine aw_reg0 (by simp only [SZ, Nat.reduceAdd]; exact rfl) ?_) | (refine aw_reg (by decide +kernel) (by simp only [SZ, Nat.reduceAdd]; exact rfl) ?_) | (refine aw_regS (by decide +kernel) (by simp only [SZ, Nat.reduceAdd]; exact rfl) ?_) | (refine arl_nil ?_) | (refine aw_skip ?_) | (refine aw_block ?_) | (refine aw_exit ?_) | (refine aw_ret ?_) | (refine arl_cons rfl rfl (by simp +decide only [aop, abuiltin, aeval, aintBin, bin_int, aload_bump, SS, reduceIte, reduceCtorEq]; exact rfl) (by first | rfl | with_reducible assumption) rfl ?_) | (refine arl_none rfl rfl (by simp +decide only [aop, abuiltin, aeval, aintBin, bin_int, aload_bump, SS, reduceIte, reduceCtorEq]; exact rfl) rfl rfl ?_) | (refine arl_off rfl rfl ?_) | (refine aw_condT (by simp +decide only [aop, abuiltin, aeval, aintBin, bin_int, aload_bump, SS, reduceIte, reduceCtorEq]; first | done | exact rfl) ?_) | (refine aw_condF (by simp +decide only [aop, abuiltin, aeval, aintBin, bin_int, aload_bump, SS, reduceIte, reduceCtorEq]; first | done | exact rfl) ?_))
  refine arl_call rfl rfl rfl rfl rfl rfl ((fcut_ok (by repeat (first | assumption | (refine WF.bump ?_ _))) most (hD.rd.up (by repeat (first | exact Keeps.refl _ _ | (refine Keeps.bumpR ?_ _)))) (by omega) hby').dead.wf (by repeat (first | assumption | (refine WF.bump ?_ _) | (refine WF.put ?_ (by simp only [n_bump, n_put, n_touch, n_kill] at *; omega) (by simp only [n_bump, n_put, n_touch, n_kill] at *; omega)))) |>.mono ?_)
  rintro r s8 ⟨hw8, hn8, hd8, hE8, y, KY, LY, rfl, hys, hY, hKY, hLY, -, -⟩
  refine ⟨rfl, ?_⟩
  replace hE8 : Ext s7 s8 := Keeps.trans (show Ext s7 _ from (by repeat (first | exact Keeps.refl _ _ | (refine Keeps.bumpR ?_ _)))) hE8
  simp only [n_bump] at hn7 hn8
  obtain ⟨Q, hQ⟩ : ∃ Q, cutS (bndF most) ps.flatten = Q := ⟨_, rfl⟩
  rw [hQ] at f8 hcl hO6 hY hfs ⊢
  obtain ⟨qa, qb, qc, qd, hst⟩ : ∃ qa qb qc qd : Int, stOf ps.flatten Q = stT qa qb qc qd := ⟨_, _, _, _, rfl⟩
  rw [hst]
  repeat (first | (refine aw_seq ?_) | (refine aw_reg0 (by simp only [SZ, Nat.reduceAdd]; exact rfl) ?_) | (refine aw_reg (by decide +kernel) (by simp only [SZ, Nat.reduceAdd]; exact rfl) ?_) | (refine aw_regS (by decide +kernel) (by simp only [SZ, Nat.reduceAdd]; exact rfl) ?_) | (refine arl_nil ?_) | (refine aw_skip ?_) | (refine aw_block ?_) | (refine aw_exit ?_) | (refine aw_ret ?_) | (refine arl_cons rfl rfl (by simp +decide only [aop, abuiltin, aeval, aintBin, bin_int, aload_bump, SS, reduceIte, reduceCtorEq]; exact rfl) (by first | rfl | with_reducible assumption) rfl ?_) | (refine arl_none rfl rfl (by simp +decide only [aop, abuiltin, aeval, aintBin, bin_int, aload_bump, SS, reduceIte, reduceCtorEq]; exact rfl) rfl rfl ?_) | (refine arl_off rfl rfl ?_) | (refine aw_condT (by simp +decide only [aop, abuiltin, aeval, aintBin, bin_int, aload_bump, SS, reduceIte, reduceCtorEq]; first | done | exact rfl) ?_) | (refine aw_condF (by simp +decide only [aop, abuiltin, aeval, aintBin, bin_int, aload_bump, SS, reduceIte, reduceCtorEq]; first | done | exact rfl) ?_))
  refine arl_storeW (e := ST) (cs := [i64 qa, i64 qb, i64 qc, i64 qd]) rfl rfl rfl rfl rfl (get_put _ _) szST rfl rfl rfl rfl rfl ?_
  intro s9 hn9 hwf9 hK9 hg9 hD9
  obtain ⟨nc, hnc⟩ : ∃ nc, s6.n + (0 + 1 + 1 + 1 + 1 + 1 + 1 + 1) = nc := ⟨_, rfl⟩
  rw [hnc] at hwf9 hK9 hg9 hD9 ⊢
  have hw9 : WF s9 := hwf9 (WF.put hw8 (show nc < s8.n by omega) (show nc < s8.n by omega))
  have hput : ∀ o : AObj, Ext s8 (s8.put nc o) := fun o => Keeps.putF (Keeps.refl _ _) (hd8 _ (by first | omega | (simp only [n_bump, n_put]; omega) | (simp only [n_bump, n_put] at *; omega)) (hd7 _ (by first | omega | (simp only [n_bump, n_put]; omega) | (simp only [n_bump, n_put] at *; omega)) (fresh hw6 (by omega))))
  have hE9 : Ext s6 s9 := Keeps.call (hE7.trans (Keeps.trans hE8 (hput _))) hK9 hw6 (fun g hg => .inr (by omega))
  have hls : aload Try.prog s9 ST (.ptr nc 0) = some (stT qa qb qc qd) := load_agg Try.underlying34 rfl szST hg9 (by simp)
  have hX9 := (oRow_rd (hX.up hE9)).rd
  rw [← hfs] at hX9
  have hO9 := (oRow_rd (hO6.up hE9)).rd
  have hY9 := ((oRow_rd (hY.up (hput _))).keep hK9 (fun g hg h => by have := hKY g hg; first | omega | (simp only [n_bump] at *; omega)) (fun j g hg h => by have := hLY j g hg; first | omega | (simp only [n_bump] at *; omega))).rd
  have hll : ∀ f ∈ Q.1, f.length ≤ 140737488355327 := fun f hf => by have := hcl.2 f hf; omega
  have hne := stNe qa qb qc qd
  have hee : (Q.2.2 == Q.2.2) = true := by simp
  repeat (first | (refine aw_seq ?_) | (refine aw_reg0 (by simp only [SZ, Nat.reduceAdd]; exact rfl) ?_) | (refine aw_reg (by decide +kernel) (by simp only [SZ, Nat.reduceAdd]; exact rfl) ?_) | (refine aw_regS (by decide +kernel) (by simp only [SZ, Nat.reduceAdd]; exact rfl) ?_) | (refine arl_nil ?_) | (refine aw_skip ?_) | (refine aw_block ?_) | (refine aw_exit ?_) | (refine aw_ret ?_) | (refine arl_cons rfl rfl (by simp +decide only [aop, abuiltin, aeval, aintBin, bin_int, aload_bump, SS, reduceIte, reduceCtorEq, f7]; exact rfl) (by first | rfl | with_reducible assumption) rfl ?_) | (refine arl_none rfl rfl (by simp +decide only [aop, abuiltin, aeval, aintBin, bin_int, aload_bump, SS, reduceIte, reduceCtorEq, f7]; exact rfl) rfl rfl ?_) | (refine arl_off rfl rfl ?_) | (refine aw_condT (by simp +decide only [aop, abuiltin, aeval, aintBin, bin_int, aload_bump, SS, reduceIte, reduceCtorEq, f7]; first | done | exact rfl) ?_) | (refine aw_condF (by simp +decide only [aop, abuiltin, aeval, aintBin, bin_int, aload_bump, SS, reduceIte, reduceCtorEq, f7]; first | done | exact rfl) ?_))
  refine arl_callS rfl rfl rfl rfl rfl rfl ((ralike_ok (by repeat (first | assumption | (refine WF.bump ?_ _))) (hO9.up (by repeat (first | exact Keeps.refl _ _ | (refine Keeps.bumpR ?_ _)))) (hX9.up (by repeat (first | exact Keeps.refl _ _ | (refine Keeps.bumpR ?_ _)))) (by omega) hll).wf (by repeat (first | assumption | (refine WF.bump ?_ _) | (refine WF.put ?_ (by simp only [n_bump, n_put, n_touch, n_kill] at *; omega) (by simp only [n_bump, n_put, n_touch, n_kill] at *; omega)))) |>.mono ?_)
  rintro r s10 ⟨hw10, hn10, hE10, rfl⟩
  refine ⟨hE10, by first | rfl | with_reducible assumption, ?_⟩
  replace hE10 : Ext s9 s10 := Keeps.trans (by repeat (first | assumption | exact Keeps.refl _ _ | (refine Keeps.bumpR ?_ _) | (refine Keeps.put ?_ (by assumption) (by simp only [n_bump, n_put, n_touch, n_kill] at *; omega)))) hE10
  have hN10 := hE10.n
  repeat (first | (refine aw_seq ?_) | (refine aw_reg0 (by simp only [SZ, Nat.reduceAdd]; exact rfl) ?_) | (refine aw_reg (by decide +kernel) (by simp only [SZ, Nat.reduceAdd]; exact rfl) ?_) | (refine aw_regS (by decide +kernel) (by simp only [SZ, Nat.reduceAdd]; exact rfl) ?_) | (refine arl_nil ?_) | (refine aw_skip ?_) | (refine aw_block ?_) | (refine aw_exit ?_) | (refine aw_ret ?_) | (refine arl_cons rfl rfl (by simp +decide only [aop, abuiltin, aeval, aintBin, bin_int, aload_bump, SS, reduceIte, reduceCtorEq, f7]; exact rfl) (by first | rfl | with_reducible assumption) rfl ?_) | (refine arl_none rfl rfl (by simp +decide only [aop, abuiltin, aeval, aintBin, bin_int, aload_bump, SS, reduceIte, reduceCtorEq, f7]; exact rfl) rfl rfl ?_) | (refine arl_off rfl rfl ?_) | (refine aw_condT (by simp +decide only [aop, abuiltin, aeval, aintBin, bin_int, aload_bump, SS, reduceIte, reduceCtorEq, f7]; first | done | exact rfl) ?_) | (refine aw_condF (by simp +decide only [aop, abuiltin, aeval, aintBin, bin_int, aload_bump, SS, reduceIte, reduceCtorEq, f7]; first | done | exact rfl) ?_))
  refine arl_callS rfl rfl rfl rfl rfl rfl ((ralike_ok (by repeat (first | assumption | (refine WF.bump ?_ _))) ((hO9.up hE10).up (by repeat (first | exact Keeps.refl _ _ | (refine Keeps.bumpR ?_ _)))) ((hY9.up hE10).up (by repeat (first | exact Keeps.refl _ _ | (refine Keeps.bumpR ?_ _)))) (by omega) hll).wf (by repeat (first | assumption | (refine WF.bump ?_ _) | (refine WF.put ?_ (by simp only [n_bump, n_put, n_touch, n_kill] at *; omega) (by simp only [n_bump, n_put, n_touch, n_kill] at *; omega)))) |>.mono ?_)
  rintro r s11 ⟨hw11, hn11, hE11, rfl⟩
  refine ⟨hE11, by first | rfl | with_reducible assumption, ?_⟩
  replace hE11 : Ext s10 s11 := Keeps.trans (by repeat (first | assumption | exact Keeps.refl _ _ | (refine Keeps.bumpR ?_ _) | (refine Keeps.put ?_ (by assumption) (by simp only [n_bump, n_put, n_touch, n_kill] at *; omega)))) hE11
  have hN11 := hE11.n
  repeat (first | (refine aw_seq ?_) | (refine aw_reg0 (by simp only [SZ, Nat.reduceAdd]; exact rfl) ?_) | (refine aw_reg (by decide +kernel) (by simp only [SZ, Nat.reduceAdd]; exact rfl) ?_) | (refine aw_regS (by decide +kernel) (by simp only [SZ, Nat.reduceAdd]; exact rfl) ?_) | (refine arl_nil ?_) | (refine aw_skip ?_) | (refine aw_block ?_) | (refine aw_exit ?_) | (refine aw_ret ?_) | (refine arl_cons rfl rfl (by simp +decide only [aop, abuiltin, aeval, aintBin, bin_int, aload_bump, SS, reduceIte, reduceCtorEq, f5]; exact rfl) (by first | rfl | with_reducible assumption) rfl ?_) | (refine arl_none rfl rfl (by simp +decide only [aop, abuiltin, aeval, aintBin, bin_int, aload_bump, SS, reduceIte, reduceCtorEq, f5]; exact rfl) rfl rfl ?_) | (refine arl_off rfl rfl ?_) | (refine aw_condT (by simp +decide only [aop, abuiltin, aeval, aintBin, bin_int, aload_bump, SS, reduceIte, reduceCtorEq, f5]; first | done | exact rfl) ?_) | (refine aw_condF (by simp +decide only [aop, abuiltin, aeval, aintBin, bin_int, aload_bump, SS, reduceIte, reduceCtorEq, f5]; first | done | exact rfl) ?_))
  refine arl_callS rfl rfl rfl rfl rfl rfl ((fstate_ok (by repeat (first | assumption | (refine WF.bump ?_ _))) ((((hP6.up hE9).up hE10).up hE11).up (by repeat (first | exact Keeps.refl _ _ | (refine Keeps.bumpR ?_ _)))) (by omega)).wf (by repeat (first | assumption | (refine WF.bump ?_ _) | (refine WF.put ?_ (by simp only [n_bump, n_put, n_touch, n_kill] at *; omega) (by simp only [n_bump, n_put, n_touch, n_kill] at *; omega)))) |>.mono ?_)
  rintro r s12 ⟨hw12, hn12, hE12, rfl⟩
  refine ⟨hE12, by first | rfl | with_reducible assumption, ?_⟩
  replace hE12 : Ext s11 s12 := Keeps.trans (by repeat (first | assumption | exact Keeps.refl _ _ | (refine Keeps.bumpR ?_ _) | (refine Keeps.put ?_ (by assumption) (by simp only [n_bump, n_put, n_touch, n_kill] at *; omega)))) hE12
  have hN12 := hE12.n
  rw [hQ, hst]
  repeat (first | (refine aw_seq ?_) | (refine aw_reg0 (by simp only [SZ, Nat.reduceAdd]; exact rfl) ?_) | (refine aw_reg (by decide +kernel) (by simp only [SZ, Nat.reduceAdd]; exact rfl) ?_) | (refine aw_regS (by decide +kernel) (by simp only [SZ, Nat.reduceAdd]; exact rfl) ?_) | (refine arl_nil ?_) | (refine aw_skip ?_) | (refine aw_block ?_) | (refine aw_exit ?_) | (refine aw_ret ?_) | (refine arl_cons rfl rfl (by simp +decide only [aop, abuiltin, aeval, aintBin, bin_int, aload_bump, SS, reduceIte, reduceCtorEq, f6]; exact rfl) (by first | rfl | with_reducible assumption) rfl ?_) | (refine arl_none rfl rfl (by simp +decide only [aop, abuiltin, aeval, aintBin, bin_int, aload_bump, SS, reduceIte, reduceCtorEq, f6]; exact rfl) rfl rfl ?_) | (refine arl_off rfl rfl ?_) | (refine aw_condT (by simp +decide only [aop, abuiltin, aeval, aintBin, bin_int, aload_bump, SS, reduceIte, reduceCtorEq, f6]; first | done | exact rfl) ?_) | (refine aw_condF (by simp +decide only [aop, abuiltin, aeval, aintBin, bin_int, aload_bump, SS, reduceIte, reduceCtorEq, f6]; first | done | exact rfl) ?_))
  refine arl_callS rfl rfl rfl rfl rfl rfl ((fstate_ok (by repeat (first | assumption | (refine WF.bump ?_ _))) (((((hF6.up hE9).up hE10).up hE11).up hE12).up (by repeat (first | exact Keeps.refl _ _ | (refine Keeps.bumpR ?_ _)))) (by omega)).wf (by repeat (first | assumption | (refine WF.bump ?_ _) | (refine WF.put ?_ (by simp only [n_bump, n_put, n_touch, n_kill] at *; omega) (by simp only [n_bump, n_put, n_touch, n_kill] at *; omega)))) |>.mono ?_)
  rintro r s13 ⟨hw13, hn13, hE13, rfl⟩
  refine ⟨hE13, by first | rfl | with_reducible assumption, ?_⟩
  replace hE13 : Ext s12 s13 := Keeps.trans (by repeat (first | assumption | exact Keeps.refl _ _ | (refine Keeps.bumpR ?_ _) | (refine Keeps.put ?_ (by assumption) (by simp only [n_bump, n_put, n_touch, n_kill] at *; omega)))) hE13
  have hN13 := hE13.n
  rw [hQ, hst]
  repeat (first | (refine aw_seq ?_) | (refine aw_reg0 (by simp only [SZ, Nat.reduceAdd]; exact rfl) ?_) | (refine aw_reg (by decide +kernel) (by simp only [SZ, Nat.reduceAdd]; exact rfl) ?_) | (refine aw_regS (by decide +kernel) (by simp only [SZ, Nat.reduceAdd]; exact rfl) ?_) | (refine arl_nil ?_) | (refine aw_skip ?_) | (refine aw_block ?_) | (refine aw_exit ?_) | (refine aw_ret ?_) | (refine arl_cons rfl rfl (by simp +decide only [aop, abuiltin, aeval, aintBin, bin_int, aload_bump, SS, reduceIte, reduceCtorEq, hne, f5]; exact rfl) (by first | rfl | with_reducible assumption) rfl ?_) | (refine arl_none rfl rfl (by simp +decide only [aop, abuiltin, aeval, aintBin, bin_int, aload_bump, SS, reduceIte, reduceCtorEq, hne, f5]; exact rfl) rfl rfl ?_) | (refine arl_off rfl rfl ?_) | (refine aw_condT (by simp +decide only [aop, abuiltin, aeval, aintBin, bin_int, aload_bump, SS, reduceIte, reduceCtorEq, hne, f5]; first | done | exact rfl) ?_) | (refine aw_condF (by simp +decide only [aop, abuiltin, aeval, aintBin, bin_int, aload_bump, SS, reduceIte, reduceCtorEq, hne, f5]; first | done | exact rfl) ?_))
  refine arl_callS rfl rfl rfl rfl rfl rfl ((fstate_ok (by repeat (first | assumption | (refine WF.bump ?_ _))) ((((((hP6.up hE9).up hE10).up hE11).up hE12).up hE13).up (by repeat (first | exact Keeps.refl _ _ | (refine Keeps.bumpR ?_ _)))) (by omega)).wf (by repeat (first | assumption | (refine WF.bump ?_ _) | (refine WF.put ?_ (by simp only [n_bump, n_put, n_touch, n_kill] at *; omega) (by simp only [n_bump, n_put, n_touch, n_kill] at *; omega)))) |>.mono ?_)
  rintro r s14 ⟨hw14, hn14, hE14, rfl⟩
  refine ⟨hE14, by first | rfl | with_reducible assumption, ?_⟩
  replace hE14 : Ext s13 s14 := Keeps.trans (by repeat (first | assumption | exact Keeps.refl _ _ | (refine Keeps.bumpR ?_ _) | (refine Keeps.put ?_ (by assumption) (by simp only [n_bump, n_put, n_touch, n_kill] at *; omega)))) hE14
  have hN14 := hE14.n
  rw [hQ, hst]
  have hls14 := aload_up ((((hE10.trans hE11).trans hE12).trans hE13).trans hE14) hls
  repeat (first | (refine aw_seq ?_) | (refine aw_reg0 (by simp only [SZ, Nat.reduceAdd]; exact rfl) ?_) | (refine aw_reg (by decide +kernel) (by simp only [SZ, Nat.reduceAdd]; exact rfl) ?_) | (refine aw_regS (by decide +kernel) (by simp only [SZ, Nat.reduceAdd]; exact rfl) ?_) | (refine arl_nil ?_) | (refine aw_skip ?_) | (refine aw_block ?_) | (refine aw_exit ?_) | (refine aw_ret ?_) | (refine arl_cons rfl rfl (by simp +decide only [aop, abuiltin, aeval, aintBin, bin_int, aload_bump, SS, reduceIte, reduceCtorEq, hls14, hne, f8, hee]; exact rfl) (by first | rfl | with_reducible assumption) rfl ?_) | (refine arl_none rfl rfl (by simp +decide only [aop, abuiltin, aeval, aintBin, bin_int, aload_bump, SS, reduceIte, reduceCtorEq, hls14, hne, f8, hee]; exact rfl) rfl rfl ?_) | (refine arl_off rfl rfl ?_) | (refine aw_condT (by simp +decide only [aop, abuiltin, aeval, aintBin, bin_int, aload_bump, SS, reduceIte, reduceCtorEq, hls14, hne, f8, hee]; first | done | exact rfl) ?_) | (refine aw_condF (by simp +decide only [aop, abuiltin, aeval, aintBin, bin_int, aload_bump, SS, reduceIte, reduceCtorEq, hls14, hne, f8, hee]; first | done | exact rfl) ?_))
  exact ⟨.inr rfl, _, rfl, rfl⟩
theorem FrameSplits_small {st : St} (hw : WF st) (most : Int) (gm : (Lit.int .i64 most).wf = true) {v : AV} {ps : List (List Int)} (h : RdL st (fun _ => True) 1 (fun cs xs => ∃ v, cs = [v] ∧ RdL st (fun _ => True) 1 (fun cs n => cs = [.pl (.int .u8 n)]) v xs) v ps)
    (good : ∀ x ∈ ps, ∀ y ∈ x, (Lit.int .u8 y).wf = true) (hb : 1 + ((ps.map fun xs : List Int => (xs.map fun _ => 1).sum + 1).sum + 1) ≤ 1048576) : ACalls Try.prog 7 [i64 most, v] st (fun r s => r = .pl (.bool true)) := by
  rw [sum_flat] at hb
  exact splits_ok hw most (rows_of h) (by omega) (fun p hp x hx => wfu8 (good p hp x hx))
end Go.Proofs.Ytoccmjhgmoandaa.Ra
