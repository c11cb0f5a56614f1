/- leatlaw17: alive. -/
import Derived.Test.YtoccmjhgmoandaaXi
namespace Go.Proofs.Ytoccmjhgmoandaa.Ra
open Go Go.RowKit
set_option linter.unusedVariables false
set_option linter.unusedSimpArgs false
set_option maxRecDepth 10000
theorem pNil (p : Nat) : abin Try.prog .eql 23 (.ptr p 0) (.pl (.pointer none)) = some (.bool false) := by kernel_rfl
theorem markF (st : St) (id g id' : Nat) (ns : List Int) : aconvert Try.prog (st.put id ⟨ns.map u8, 5, true, g⟩) id' 26 26 (.sl id 0 ns.length 1) = some (.sl id' 0 ns.length 0, ((st.put id ⟨ns.map u8, 5, true, g⟩).kill g).put id' ⟨ns.map u8, 5, false, id'⟩) := by
  simp only [aconvert, uB, if_true, amark, u5, get_put]
theorem RdB.markedF (st : St) (id g : Nat) (ns : List Int) : RdB (st.put id ⟨ns.map u8, 5, false, g⟩) (fun h => h = g) (.sl id 0 ns.length 0) ns :=
  .inr ⟨id, 0, false, _, rfl, get_put _ _, rfl, by simp, fun j x hx => by simp [hx]⟩
theorem RdB.litF (st : St) (id g : Nat) (ns : List Int) : RdB (st.put id ⟨ns.map u8, 5, true, g⟩) (fun h => h = g) (.sl id 0 ns.length 1) ns :=
  .inr ⟨id, 0, true, _, rfl, get_put _ _, rfl, by simp, fun j x hx => by simp [hx]⟩
def fa1 : List Int := [0, 0, 0, 2, 97]
def fa2 : List Int := [98, 0, 0]
def fa3 : List Int := [97, 98]
def fa4 : List Int := [0, 0, 0, 2, 97, 98]
theorem litA1 (id : Nat) : abuildSlice Try.prog 26 id 5 [(0, u8 0), (1, u8 0), (2, u8 0), (3, u8 2), (4, u8 97)] = some (.sl id 0 fa1.length 1, ⟨fa1.map u8, 5, true, id⟩) := lits id fa1 (by decide)
theorem litA2 (id : Nat) : abuildSlice Try.prog 26 id 3 [(0, u8 98), (1, u8 0), (2, u8 0)] = some (.sl id 0 fa2.length 1, ⟨fa2.map u8, 5, true, id⟩) := lits id fa2 (by decide)
theorem litA3 (id : Nat) : abuildSlice Try.prog 26 id 2 [(0, u8 97), (1, u8 98)] = some (.sl id 0 fa3.length 1, ⟨fa3.map u8, 5, true, id⟩) := lits id fa3 (by decide)
theorem litA4 (id : Nat) : abuildSlice Try.prog 26 id 6 [(0, u8 0), (1, u8 0), (2, u8 0), (3, u8 2), (4, u8 97), (5, u8 98)] = some (.sl id 0 fa4.length 1, ⟨fa4.map u8, 5, true, id⟩) := lits id fa4 (by decide)
theorem cutA1 : cutS (bndF 3) ([] ++ fa1) = ([], fa1, 0) := by decide +kernel
theorem cutA0 : cutS (bndF 3) [] = ([], [], 0) := by decide +kernel
theorem cutA2 : cutS (bndF 3) (([] ++ fa1) ++ fa2) = ([fa3], [0, 0], 0) := by decide +kernel
theorem fputA : fput 3 fa3 = (0, fa4) := by decide +kernel
set_option maxHeartbeats 4000000 in
theorem falive_ok {st : St} (hw : WF st) : ACalls Try.prog 10 [] st (fun r s => Ext st s ∧ r = .pl (.bool true)) := by
  refine acalls_of Try.func10 rfl (by kernel_rfl) rfl ?_
  repeat (first | (refine aw_seq ?_) | (refine aw_reg0 (by simp only [SZ, Nat.reduceAdd]; exact rfl) ?_) | (refine aw_reg (by decide +kernel) (by simp only [SZ, Nat.reduceAdd]; exact rfl) ?_) | (refine aw_regS (by decide +kernel) (by simp only [SZ, Nat.reduceAdd]; exact rfl) ?_) | (refine arl_nil ?_) | (refine aw_skip ?_) | (refine aw_block ?_) | (refine aw_exit ?_) | (refine aw_ret ?_) | (refine arl_cons rfl rfl (by simp +decide only [aop, abuiltin, aeval, aintBin, bin_int, aload_bump, SS, reduceIte, reduceCtorEq]; exact rfl) (by first | rfl | with_reducible assumption) rfl ?_) | (refine arl_none rfl rfl (by simp +decide only [aop, abuiltin, aeval, aintBin, bin_int, aload_bump, SS, reduceIte, reduceCtorEq]; exact rfl) rfl rfl ?_) | (refine arl_off rfl rfl ?_) | (refine aw_condT (by simp +decide only [aop, abuiltin, aeval, aintBin, bin_int, aload_bump, SS, reduceIte, reduceCtorEq]; first | done | exact rfl) ?_) | (refine aw_condF (by simp +decide only [aop, abuiltin, aeval, aintBin, bin_int, aload_bump, SS, reduceIte, reduceCtorEq]; first | done | exact rfl) ?_))
  refine arl_call rfl rfl rfl rfl rfl rfl ((fnewP (by repeat (first | assumption | (refine WF.bump ?_ _))) 3).wf (by repeat (first | assumption | (refine WF.bump ?_ _) | (refine WF.put ?_ (by simp only [n_bump, n_put, n_touch, n_kill] at *; omega) (by simp only [n_bump, n_put, n_touch, n_kill] at *; omega)))) |>.mono ?_)
  rintro r s1 ⟨hw1, hn1, hE1, p, rfl, hpn, hF1⟩
  refine ⟨by first | rfl | with_reducible assumption, ?_⟩
  replace hE1 : Ext st s1 := Keeps.trans (by repeat (first | assumption | exact Keeps.refl _ _ | (refine Keeps.bumpR ?_ _) | (refine Keeps.put ?_ (by assumption) (by simp only [n_bump, n_put, n_touch, n_kill] at *; omega)))) hE1
  have hN1 := hE1.n
  have hp1 : p + 1 ≤ s1.n := hF1.2.1
  simp only [n_bump] at hpn
  repeat (first | (refine aw_seq ?_) | (refine aw_reg0 (by simp only [SZ, Nat.reduceAdd]; exact rfl) ?_) | (refine aw_reg (by decide +kernel) (by simp only [SZ, Nat.reduceAdd]; exact rfl) ?_) | (refine aw_regS (by decide +kernel) (by simp only [SZ, Nat.reduceAdd]; exact rfl) ?_) | (refine arl_nil ?_) | (refine aw_skip ?_) | (refine aw_block ?_) | (refine aw_exit ?_) | (refine aw_ret ?_) | (refine arl_cons rfl rfl (by simp +decide only [aop, abuiltin, aeval, aintBin, bin_int, aload_bump, SS, reduceIte, reduceCtorEq, pNil, litA1]; exact rfl) (by first | rfl | with_reducible assumption) rfl ?_) | (refine arl_none rfl rfl (by simp +decide only [aop, abuiltin, aeval, aintBin, bin_int, aload_bump, SS, reduceIte, reduceCtorEq, pNil, litA1]; exact rfl) rfl rfl ?_) | (refine arl_off rfl rfl ?_) | (refine aw_condT (by simp +decide only [aop, abuiltin, aeval, aintBin, bin_int, aload_bump, SS, reduceIte, reduceCtorEq, pNil, litA1]; first | done | exact rfl) ?_) | (refine aw_condF (by simp +decide only [aop, abuiltin, aeval, aintBin, bin_int, aload_bump, SS, reduceIte, reduceCtorEq, pNil, litA1]; first | done | exact rfl) ?_))
  refine arl_hide ?_
  intro t1 ht1
  obtain ⟨hEt1, hwt1, hnt1, hRt1⟩ : Ext s1 t1 ∧ WF t1 ∧ s1.n ≤ t1.n ∧ RdB t1 (fun g => s1.n + 3 = g) (.sl ((s1.bump 2).n + (0 + 1)) 0 fa1.length 1) fa1 := by
    subst ht1
    exact ⟨(by repeat (first | assumption | exact Keeps.refl _ _ | (refine Keeps.bumpR ?_ _) | (refine Keeps.put ?_ (by assumption) (by simp only [n_bump, n_put, n_touch, n_kill] at *; omega)))), (by repeat (first | assumption | (refine WF.bump ?_ _) | (refine WF.put ?_ (by simp only [n_bump, n_put, n_touch, n_kill] at *; omega) (by simp only [n_bump, n_put, n_touch, n_kill] at *; omega)))), by simp only [n_bump, n_put]; omega, (RdB.litF _ _ _ _).mono (fun g h => by simp only [n_bump] at h; omega)⟩
  clear ht1
  refine arl_call rfl rfl rfl rfl rfl rfl ((fed_ok (by repeat (first | assumption | (refine WF.bump ?_ _))) (hF1.up hEt1) (by decide) hRt1 (fun g hg => ⟨fun h => h, fun h => h, by omega⟩) (by decide) (by decide)).wf (by repeat (first | assumption | (refine WF.bump ?_ _) | (refine WF.put ?_ (by simp only [n_bump, n_put, n_touch, n_kill] at *; omega) (by simp only [n_bump, n_put, n_touch, n_kill] at *; omega)))) |>.mono ?_)
  rintro r s2 ⟨hw2, hn2, hE2, x1, KX1, KH1, KB1, L1, fs1, rfl, hx1, hO1, hG1, hfs1, -, hF2⟩
  refine ⟨rfl, ?_⟩
  rw [cutA1, cutA0, List.nil_append] at hfs1
  subst hfs1
  rw [cutA1]
  have hlx1 := RdE.len (oRow_rd hO1).rd TRr
  replace hE2 : Ext st s2 := Keeps.call (hE1.trans hEt1) hE2 hw (fun g hg => by rcases hg with hg | hg | hg; exact .inr (by omega); exact hg.elim; exact hg.elim)
  have hN2 := hE2.n
  repeat (first | (refine aw_seq ?_) | (refine aw_reg0 (by simp only [SZ, Nat.reduceAdd]; exact rfl) ?_) | (refine aw_reg (by decide +kernel) (by simp only [SZ, Nat.reduceAdd]; exact rfl) ?_) | (refine aw_regS (by decide +kernel) (by simp only [SZ, Nat.reduceAdd]; exact rfl) ?_) | (refine arl_nil ?_) | (refine aw_skip ?_) | (refine aw_block ?_) | (refine aw_exit ?_) | (refine aw_ret ?_) | (refine arl_cons rfl rfl (by simp +decide only [aop, abuiltin, aeval, aintBin, bin_int, aload_bump, SS, reduceIte, reduceCtorEq, litA2]; exact rfl) (by first | rfl | with_reducible assumption) rfl ?_) | (refine arl_none rfl rfl (by simp +decide only [aop, abuiltin, aeval, aintBin, bin_int, aload_bump, SS, reduceIte, reduceCtorEq, litA2]; exact rfl) rfl rfl ?_) | (refine arl_off rfl rfl ?_) | (refine aw_condT (by simp +decide only [aop, abuiltin, aeval, aintBin, bin_int, aload_bump, SS, reduceIte, reduceCtorEq, litA2]; first | done | exact rfl) ?_) | (refine aw_condF (by simp +decide only [aop, abuiltin, aeval, aintBin, bin_int, aload_bump, SS, reduceIte, reduceCtorEq, litA2]; first | done | exact rfl) ?_))
  refine arl_hide ?_
  intro t2 ht2
  obtain ⟨hEt2, hwt2, hnt2, hRt2⟩ : Ext s2 t2 ∧ WF t2 ∧ s2.n ≤ t2.n ∧ RdB t2 (fun g => s2.n ≤ g) (.sl (s2.n + (0 + 1)) 0 fa2.length 1) fa2 := by
    subst ht2
    exact ⟨(by repeat (first | assumption | exact Keeps.refl _ _ | (refine Keeps.bumpR ?_ _) | (refine Keeps.put ?_ (by assumption) (by simp only [n_bump, n_put, n_touch, n_kill] at *; omega)))), (by repeat (first | assumption | (refine WF.bump ?_ _) | (refine WF.put ?_ (by simp only [n_bump, n_put, n_touch, n_kill] at *; omega) (by simp only [n_bump, n_put, n_touch, n_kill] at *; omega)))), by simp only [n_bump, n_put]; omega, (RdB.litF _ _ _ _).mono (fun g h => by omega)⟩
  clear ht2
  have hF2' := hF2.up hEt2
  have hKb : ∀ g, KH1 g ∨ KB1 g → g < s2.n := fun g hg => by
    rcases hg with hg | hg
    · rcases hG1.h g hg with h | h
      · exact h.elim
      · exact h.2
    · rcases hG1.b g hg with h | h
      · exact h.elim
      · exact h.2
  have hKl : ∀ g, KH1 g ∨ KB1 g → t1.n ≤ g := fun g hg => by
    rcases hg with hg | hg
    · rcases hG1.h g hg with h | h
      · exact h.elim
      · exact h.1
    · rcases hG1.b g hg with h | h
      · exact h.elim
      · exact h.1
  refine arl_call rfl rfl rfl rfl rfl rfl ((fed_ok (by repeat (first | assumption | (refine WF.bump ?_ _))) hF2' (by decide) hRt2 (fun g hg => ⟨fun h => by have := hKb g (.inl h); omega, fun h => by have := hKb g (.inr h); omega, by omega⟩) (by decide) (by decide)).wf (by repeat (first | assumption | (refine WF.bump ?_ _) | (refine WF.put ?_ (by simp only [n_bump, n_put, n_touch, n_kill] at *; omega) (by simp only [n_bump, n_put, n_touch, n_kill] at *; omega)))) |>.mono ?_)
  rintro r s3 ⟨hw3, hn3, hE3, x2, KX2, KH2, KB2, L2, fs2, rfl, hx2, hO2, hG2, hfs2, -, hF3⟩
  refine ⟨rfl, ?_⟩
  rw [cutA2, cutA1, List.nil_append] at hfs2
  subst hfs2
  rw [cutA2]
  have hlx2 := RdE.len (oRow_rd hO2).rd TRr
  have hE23 : Ext st s3 := Keeps.call (hE2.trans hEt2) hE3 hw (fun g hg => by rcases hg with hg | hg | hg; exact .inr (by omega); exact .inr (by have := hKl g (.inl hg); have := hE1.n; omega); exact .inr (by have := hKl g (.inr hg); have := hE1.n; omega))
  have hN3 := hE23.n
  repeat (first | (refine aw_seq ?_) | (refine aw_reg0 (by simp only [SZ, Nat.reduceAdd]; exact rfl) ?_) | (refine aw_reg (by decide +kernel) (by simp only [SZ, Nat.reduceAdd]; exact rfl) ?_) | (refine aw_regS (by decide +kernel) (by simp only [SZ, Nat.reduceAdd]; exact rfl) ?_) | (refine arl_nil ?_) | (refine aw_skip ?_) | (refine aw_block ?_) | (refine aw_exit ?_) | (refine aw_ret ?_) | (refine arl_cons rfl rfl (by simp +decide only [aop, abuiltin, aeval, aintBin, bin_int, aload_bump, SS, reduceIte, reduceCtorEq]; exact rfl) (by first | rfl | with_reducible assumption) rfl ?_) | (refine arl_none rfl rfl (by simp +decide only [aop, abuiltin, aeval, aintBin, bin_int, aload_bump, SS, reduceIte, reduceCtorEq]; exact rfl) rfl rfl ?_) | (refine arl_off rfl rfl ?_) | (refine aw_condT (by simp +decide only [aop, abuiltin, aeval, aintBin, bin_int, aload_bump, SS, reduceIte, reduceCtorEq]; first | done | exact rfl) ?_) | (refine aw_condF (by simp +decide only [aop, abuiltin, aeval, aintBin, bin_int, aload_bump, SS, reduceIte, reduceCtorEq]; first | done | exact rfl) ?_))
  refine arl_call rfl rfl rfl rfl rfl rfl ((fstate_ok (by repeat (first | assumption | (refine WF.bump ?_ _))) (hF3.up (by repeat (first | exact Keeps.refl _ _ | (refine Keeps.bumpR ?_ _)))) (by decide)).dead.wf (by repeat (first | assumption | (refine WF.bump ?_ _) | (refine WF.put ?_ (by simp only [n_bump, n_put, n_touch, n_kill] at *; omega) (by simp only [n_bump, n_put, n_touch, n_kill] at *; omega)))) |>.mono ?_)
  rintro r s4 ⟨hw4, hn4, hd4, hE4, rfl⟩
  rw [cutA2]
  have hst : stOf (([] ++ fa1) ++ fa2) ([fa3], [0, 0], 0) = stT 1 6 2 0 := rfl
  rw [hst]
  refine ⟨rfl, ?_⟩
  replace hE4 : Ext s3 s4 := Keeps.trans (show Ext s3 _ from (by repeat (first | exact Keeps.refl _ _ | (refine Keeps.bumpR ?_ _)))) hE4
  simp only [n_bump] at hn4
  repeat (first | (refine aw_seq ?_) | (refine aw_reg0 (by simp only [SZ, Nat.reduceAdd]; exact rfl) ?_) | (refine aw_reg (by decide +kernel) (by simp only [SZ, Nat.reduceAdd]; exact rfl) ?_) | (refine aw_regS (by decide +kernel) (by simp only [SZ, Nat.reduceAdd]; exact rfl) ?_) | (refine arl_nil ?_) | (refine aw_skip ?_) | (refine aw_block ?_) | (refine aw_exit ?_) | (refine aw_ret ?_) | (refine arl_cons rfl rfl (by simp +decide only [aop, abuiltin, aeval, aintBin, bin_int, aload_bump, SS, reduceIte, reduceCtorEq]; exact rfl) (by first | rfl | with_reducible assumption) rfl ?_) | (refine arl_none rfl rfl (by simp +decide only [aop, abuiltin, aeval, aintBin, bin_int, aload_bump, SS, reduceIte, reduceCtorEq]; exact rfl) rfl rfl ?_) | (refine arl_off rfl rfl ?_) | (refine aw_condT (by simp +decide only [aop, abuiltin, aeval, aintBin, bin_int, aload_bump, SS, reduceIte, reduceCtorEq]; first | done | exact rfl) ?_) | (refine aw_condF (by simp +decide only [aop, abuiltin, aeval, aintBin, bin_int, aload_bump, SS, reduceIte, reduceCtorEq]; first | done | exact rfl) ?_))
  refine arl_storeW (e := ST) (cs := [i64 1, i64 6, i64 2, i64 0]) rfl rfl rfl rfl rfl (get_put _ _) szST rfl rfl rfl rfl rfl ?_
  intro s5 hn5 hwf5 hK5 hg5 hD5
  have hw5 : WF s5 := hwf5 (WF.put hw4 (show s3.n + (0 + 1 + 1) < s4.n by omega) (show s3.n + (0 + 1 + 1) < s4.n by omega))
  have hE45 : Ext s3 s5 := Keeps.call (Keeps.trans hE4 (Keeps.putF (Keeps.refl _ _) (hd4 _ (by simp only [n_bump]; omega) (fresh hw3 (by omega))))) hK5 hw3 (fun g hg => .inr (by omega))
  have hE35 := hE45
  replace hE45 : Ext st s5 := hE23.trans hE45
  have hn5' : s5.n = s4.n := by rw [hn5]; rfl
  have hO25 := (oRow_rd hO2).rd
  repeat (first | (refine aw_seq ?_) | (refine aw_reg0 (by simp only [SZ, Nat.reduceAdd]; exact rfl) ?_) | (refine aw_reg (by decide +kernel) (by simp only [SZ, Nat.reduceAdd]; exact rfl) ?_) | (refine aw_regS (by decide +kernel) (by simp only [SZ, Nat.reduceAdd]; exact rfl) ?_) | (refine arl_nil ?_) | (refine aw_skip ?_) | (refine aw_block ?_) | (refine aw_exit ?_) | (refine aw_ret ?_) | (refine arl_cons rfl rfl (by simp +decide only [aop, abuiltin, aeval, aintBin, bin_int, aload_bump, SS, reduceIte, reduceCtorEq, litA3, markF]; exact rfl) (by first | rfl | with_reducible assumption) rfl ?_) | (refine arl_none rfl rfl (by simp +decide only [aop, abuiltin, aeval, aintBin, bin_int, aload_bump, SS, reduceIte, reduceCtorEq, litA3, markF]; exact rfl) rfl rfl ?_) | (refine arl_off rfl rfl ?_) | (refine aw_condT (by simp +decide only [aop, abuiltin, aeval, aintBin, bin_int, aload_bump, SS, reduceIte, reduceCtorEq, litA3, markF]; first | done | exact rfl) ?_) | (refine aw_condF (by simp +decide only [aop, abuiltin, aeval, aintBin, bin_int, aload_bump, SS, reduceIte, reduceCtorEq, litA3, markF]; first | done | exact rfl) ?_))
  refine arl_hide ?_
  intro t5 ht5
  obtain ⟨hEt5, hwt5, hRt5⟩ : Ext s5 t5 ∧ WF t5 ∧ RdB t5 (fun g => s5.n ≤ g) (.sl (s5.n + (0 + 1)) 0 fa3.length 0) fa3 := by
    subst ht5
    refine ⟨(((show Ext s5 _ from (by repeat (first | exact Keeps.refl _ _ | (refine Keeps.bumpR ?_ _)))).put hw5 (by first | omega | (simp only [n_bump, n_put, n_kill]; omega))).kill hw5 (.inr (by first | omega | (simp only [n_bump, n_put, n_kill]; omega)))).put hw5 (by first | omega | (simp only [n_bump, n_put, n_kill]; omega)), WF.put (WF.kill (WF.put (by repeat (first | assumption | (refine WF.bump ?_ _))) (by first | omega | (simp only [n_bump, n_put, n_kill]; omega)) (by first | omega | (simp only [n_bump, n_put, n_kill]; omega))) _) (by first | omega | (simp only [n_bump, n_put, n_kill]; omega)) (by first | omega | (simp only [n_bump, n_put, n_kill]; omega)), (RdB.markedF _ _ _ _).mono (fun g (h : g = _) => by omega)⟩
  clear ht5
  refine arl_call rfl rfl rfl rfl rfl rfl ((fput_ok hwt5 3 hRt5 (by decide)).wf (by repeat (first | assumption | (refine WF.bump ?_ _) | (refine WF.put ?_ (by simp only [n_bump, n_put, n_touch, n_kill] at *; omega) (by simp only [n_bump, n_put, n_touch, n_kill] at *; omega)))) |>.mono ?_)
  rintro r s6 ⟨hw6, hn6, hE6, fb, rfl, hfbs, hFb⟩
  refine ⟨rfl, ?_⟩
  replace hE6 : Ext s5 s6 := hEt5.trans hE6
  rw [fputA] at hFb ⊢
  simp only at hFb ⊢
  have hlq : abin Try.prog .neq 3 (i64 (([] : List (List Int)).length : Int)) (i64 0) = some (.bool false) := rfl
  have q0 : ((0 : Int) != 0) = false := by decide
  have q1 : ((([] : List (List Int)).length : Int) != 0) = false := by decide
  have q2 : ((([fa3] : List (List Int)).length : Int) != 1) = false := by decide
  have hO26 := hO25.up (hE35.trans hE6)
  obtain ⟨e0, e1, a1, a2, a3, a4, a5⟩ := row_at hO26 .i64 0 (by decide)
  replace a1 : aindexAddr Try.prog 22 x2 (i64 0) = some e0 := a1
  replace a5 : RdB s6 _ e1 fa3 := a5
  have hsx := fun (id : Nat) => strF_of (a5.up (show Ext s6 ((s6.bump 20).bump 16) from (by repeat (first | exact Keeps.refl _ _ | (refine Keeps.bumpR ?_ _))))) id
  have hsb : abin Try.prog .eql 9 (.pl (.string (bstrF fa3))) (.pl (.string { data := #[97, 98] })) = some (.bool true) := by kernel_rfl
  have hl5 : aload Try.prog s6 ST (.ptr (s3.n + (0 + 1 + 1)) 0) = some (stT 1 6 2 0) := load_agg Try.underlying34 rfl szST (hE6.get _ _ hg5 (fun h => h)) (by simp)
  have hse := stEq 1 6 2 0
  repeat (first | (refine aw_seq ?_) | (refine aw_reg0 (by simp only [SZ, Nat.reduceAdd]; exact rfl) ?_) | (refine aw_reg (by decide +kernel) (by simp only [SZ, Nat.reduceAdd]; exact rfl) ?_) | (refine aw_regS (by decide +kernel) (by simp only [SZ, Nat.reduceAdd]; exact rfl) ?_) | (refine arl_nil ?_) | (refine aw_skip ?_) | (refine aw_block ?_) | (refine aw_exit ?_) | (refine aw_ret ?_) | (refine arl_cons rfl rfl (by simp +decide only [aop, abuiltin, aeval, aintBin, bin_int, aload_bump, SS, reduceIte, reduceCtorEq, hlx1, q1, q0, hlx2, q2, a1, a3, hsx, hsb, hl5, bldS3, hse, litA4]; exact rfl) (by first | rfl | with_reducible assumption) rfl ?_) | (refine arl_none rfl rfl (by simp +decide only [aop, abuiltin, aeval, aintBin, bin_int, aload_bump, SS, reduceIte, reduceCtorEq, hlx1, q1, q0, hlx2, q2, a1, a3, hsx, hsb, hl5, bldS3, hse, litA4]; exact rfl) rfl rfl ?_) | (refine arl_off rfl rfl ?_) | (refine aw_condT (by simp +decide only [aop, abuiltin, aeval, aintBin, bin_int, aload_bump, SS, reduceIte, reduceCtorEq, hlx1, q1, q0, hlx2, q2, a1, a3, hsx, hsb, hl5, bldS3, hse, litA4]; first | done | exact rfl) ?_) | (refine aw_condF (by simp +decide only [aop, abuiltin, aeval, aintBin, bin_int, aload_bump, SS, reduceIte, reduceCtorEq, hlx1, q1, q0, hlx2, q2, a1, a3, hsx, hsb, hl5, bldS3, hse, litA4]; first | done | exact rfl) ?_))
  refine arl_call rfl rfl rfl rfl rfl rfl ((same_self (xs := fa4) (K := fun g => t5.n ≤ g) ?w1 ?w2 (RdB.lit _ _ _ _) (by decide)).wf ?w3 |>.mono ?_)
  case w1 => exact (by repeat (first | assumption | (refine WF.bump ?_ _) | (refine WF.put ?_ (by simp only [n_bump, n_put, n_touch, n_kill] at *; omega) (by simp only [n_bump, n_put, n_touch, n_kill] at *; omega))))
  case w3 => exact (by repeat (first | assumption | (refine WF.bump ?_ _) | (refine WF.put ?_ (by simp only [n_bump, n_put, n_touch, n_kill] at *; omega) (by simp only [n_bump, n_put, n_touch, n_kill] at *; omega))))
  case w2 => exact hFb.rd.up (by repeat (first | assumption | exact Keeps.refl _ _ | (refine Keeps.bumpR ?_ _) | (refine Keeps.put ?_ (by assumption) (by simp only [n_bump, n_put, n_touch, n_kill] at *; omega))))
  rintro r s7 ⟨hw7, hn7, hE7, rfl⟩
  refine ⟨rfl, ?_⟩
  replace hE7 : Ext s6 s7 := Keeps.trans (show Ext s6 _ from (by repeat (first | assumption | exact Keeps.refl _ _ | (refine Keeps.bumpR ?_ _) | (refine Keeps.put ?_ (by assumption) (by simp only [n_bump, n_put, n_touch, n_kill] at *; omega))))) hE7
  repeat (first | (refine aw_seq ?_) | (refine aw_reg0 (by simp only [SZ, Nat.reduceAdd]; exact rfl) ?_) | (refine aw_reg (by decide +kernel) (by simp only [SZ, Nat.reduceAdd]; exact rfl) ?_) | (refine aw_regS (by decide +kernel) (by simp only [SZ, Nat.reduceAdd]; exact rfl) ?_) | (refine arl_nil ?_) | (refine aw_skip ?_) | (refine aw_block ?_) | (refine aw_exit ?_) | (refine aw_ret ?_) | (refine arl_cons rfl rfl (by simp +decide only [aop, abuiltin, aeval, aintBin, bin_int, aload_bump, SS, reduceIte, reduceCtorEq]; exact rfl) (by first | rfl | with_reducible assumption) rfl ?_) | (refine arl_none rfl rfl (by simp +decide only [aop, abuiltin, aeval, aintBin, bin_int, aload_bump, SS, reduceIte, reduceCtorEq]; exact rfl) rfl rfl ?_) | (refine arl_off rfl rfl ?_) | (refine aw_condT (by simp +decide only [aop, abuiltin, aeval, aintBin, bin_int, aload_bump, SS, reduceIte, reduceCtorEq]; first | done | exact rfl) ?_) | (refine aw_condF (by simp +decide only [aop, abuiltin, aeval, aintBin, bin_int, aload_bump, SS, reduceIte, reduceCtorEq]; first | done | exact rfl) ?_))
  exact ⟨.inr rfl, _, rfl, ((hE45.trans hE6).trans hE7).trans (by repeat (first | exact Keeps.refl _ _ | (refine Keeps.bumpR ?_ _))), rfl⟩
end Go.Proofs.Ytoccmjhgmoandaa.Ra
