/- frame: the parser's words; bound, New, State, length, step. -/
import Derived.Test.YtoccmjhgmoandaaXa
import Derived.Test.YtoccmjhgmoandaaRw
import Derived.Test.YtoccmjhgmoandaaRt
namespace Go.Proofs.Ytoccmjhgmoandaa.Ra
open Go Go.RowKit
set_option linter.unusedVariables false
set_option linter.unusedSimpArgs false
set_option maxRecDepth 10000
abbrev PT : TypeId := 53
abbrev ST : TypeId := 34
/-- The parser's cells. -/
def Pob (st : St) (p : Nat) (hv bv : AV) (M need pos fr at_ err : Int) : Prop := st.get p = some ⟨[i64 M, hv, bv, i64 need, i64 pos, i64 fr, i64 at_, i64 0, i64 err], PT, true, p⟩
theorem fp0 (p : Nat) : afieldAddr Try.prog PT (.ptr p 0) 0 = some (.ptr p 0) := by kernel_rfl
theorem fp1 (p : Nat) : afieldAddr Try.prog PT (.ptr p 0) 1 = some (.ptr p 1) := by kernel_rfl
theorem fp2 (p : Nat) : afieldAddr Try.prog PT (.ptr p 0) 2 = some (.ptr p 2) := by kernel_rfl
theorem fp3 (p : Nat) : afieldAddr Try.prog PT (.ptr p 0) 3 = some (.ptr p 3) := by kernel_rfl
theorem fp4 (p : Nat) : afieldAddr Try.prog PT (.ptr p 0) 4 = some (.ptr p 4) := by kernel_rfl
theorem fp5 (p : Nat) : afieldAddr Try.prog PT (.ptr p 0) 5 = some (.ptr p 5) := by kernel_rfl
theorem fs0 (p o : Nat) : afieldAddr Try.prog ST (.ptr p o) 0 = some (.ptr p o) := by kernel_rfl
theorem fs1 (p o : Nat) : afieldAddr Try.prog ST (.ptr p o) 1 = some (.ptr p (o + 1)) := by kernel_rfl
theorem fs2 (p o : Nat) : afieldAddr Try.prog ST (.ptr p o) 2 = some (.ptr p (o + 2)) := by kernel_rfl
theorem fs3 (p o : Nat) : afieldAddr Try.prog ST (.ptr p o) 3 = some (.ptr p (o + 3)) := by kernel_rfl
theorem uErr : Try.prog.underlying 28 = some (.int .i64) := Try.underlying28
theorem szErr : szOf Try.prog 28 = some 1 := by kernel_rfl
theorem szPT : szOf Try.prog PT = some 9 := by kernel_rfl
theorem szST : szOf Try.prog ST = some 4 := by kernel_rfl
theorem zST : zcells Try.prog ST = some [i64 0, i64 0, i64 0, i64 0] := by kernel_rfl
theorem ldE {st : St} {i off : Nat} {o : AObj} {c : AV} (h : st.get i = some o) (hc : o.cells[off]? = some c) : aload Try.prog st 28 (.ptr i off) = some c := load_at uErr rfl szErr h hc
theorem uST : ∃ fs, Try.prog.underlying ST = some (.struct fs) := ⟨_, Try.underlying34⟩
/-- What the parser's places hold. -/
structure Plds (st : St) (p : Nat) (hv bv : AV) (M need pos fr at_ err : Int) : Prop where
  lm : aload Try.prog st 3 (.ptr p 0) = some (i64 M)
  lh : aload Try.prog st 26 (.ptr p 1) = some hv
  lb : aload Try.prog st 26 (.ptr p 2) = some bv
  lneed : aload Try.prog st 3 (.ptr p 3) = some (i64 need)
  lpos : aload Try.prog st 3 (.ptr p 4) = some (i64 pos)
  lfr : aload Try.prog st 3 (.ptr p 5) = some (i64 fr)
  lat : aload Try.prog st 3 (.ptr p (5 + 1)) = some (i64 at_)
  lerr : aload Try.prog st 28 (.ptr p (5 + 3)) = some (i64 err)
  ls : aload Try.prog st ST (.ptr p 5) = some (.agg [i64 fr, i64 at_, i64 0, i64 err])
theorem Pob.lds {st : St} {p : Nat} {hv bv : AV} {M need pos fr at_ err : Int} (h : Pob st p hv bv M need pos fr at_ err) : Plds st p hv bv M need pos fr at_ err :=
  ⟨ldI h rfl, ldB h rfl, ldB h rfl, ldI h rfl, ldI h rfl, ldI h rfl, ldI h rfl, ldE h rfl, load_agg Try.underlying34 rfl szST h (by simp)⟩
theorem fbound_ok {st : St} (m : Int) : ACalls Try.prog 29 [i64 m] st (fun r s => Ext st s ∧ r = i64 (min (max m 0) 131072)) := by
  refine acalls_of Try.func29 rfl (by kernel_rfl) rfl ?_
  have hmax : amax [i64 m, i64 0] = some (i64 (max m 0)) := by
    simp only [amax]
    by_cases hq : 0 > m
    · rw [if_pos hq, show max m 0 = 0 by omega]
    · rw [if_neg hq, show max m 0 = m by omega]
  have hmin : amin [i64 (max m 0), i64 131072] = some (i64 (min (max m 0) 131072)) := by
    simp only [amin]
    by_cases hq : 131072 < max m 0
    · rw [if_pos hq, show min (max m 0) 131072 = 131072 by omega]
    · rw [if_neg hq, show min (max m 0) 131072 = max m 0 by omega]
  repeat (first | (refine aw_seq ?_) | (refine aw_reg0 (by simp only [SZ, Nat.reduceAdd]; exact rfl) ?_) | (refine aw_reg (by decide +kernel) (by simp only [SZ, Nat.reduceAdd]; exact rfl) ?_) | (refine aw_regS (by decide +kernel) (by simp only [SZ, Nat.reduceAdd]; exact rfl) ?_) | (refine arl_nil ?_) | (refine aw_skip ?_) | (refine aw_block ?_) | (refine aw_exit ?_) | (refine aw_ret ?_) | (refine arl_cons rfl rfl (by simp +decide only [aop, abuiltin, aeval, aintBin, bin_int, aload_bump, SS, reduceIte, reduceCtorEq, hmax, hmin]; exact rfl) (by first | rfl | with_reducible assumption) rfl ?_) | (refine arl_none rfl rfl (by simp +decide only [aop, abuiltin, aeval, aintBin, bin_int, aload_bump, SS, reduceIte, reduceCtorEq, hmax, hmin]; exact rfl) rfl rfl ?_) | (refine arl_off rfl rfl ?_) | (refine aw_condT (by simp +decide only [aop, abuiltin, aeval, aintBin, bin_int, aload_bump, SS, reduceIte, reduceCtorEq, hmax, hmin]; first | done | exact rfl) ?_) | (refine aw_condF (by simp +decide only [aop, abuiltin, aeval, aintBin, bin_int, aload_bump, SS, reduceIte, reduceCtorEq, hmax, hmin]; first | done | exact rfl) ?_))
  exact ⟨.inr rfl, _, rfl, (by repeat (first | exact Keeps.refl _ _ | (refine Keeps.bumpR ?_ _))), rfl⟩
theorem bldP (m : Int) : abuild Try.prog PT [(0, i64 m)] = some (.agg [i64 m, .pl (.slice none 0 0), .pl (.slice none 0 0), i64 0, i64 0, i64 0, i64 0, i64 0, i64 0]) := by kernel_rfl
theorem fnew_ok {st : St} (hw : WF st) (m : Int) : ACalls Try.prog 9 [i64 m] st (fun r s => Ext st s ∧ ∃ p, r = .ptr p 0 ∧ st.n ≤ p ∧ p < s.n ∧ Pob s p (.pl (.slice none 0 0)) (.pl (.slice none 0 0)) (min (max m 0) 131072) 0 0 0 0 0) := by
  refine acalls_of Try.func9 rfl (by kernel_rfl) rfl ?_
  repeat (first | (refine aw_seq ?_) | (refine aw_reg0 (by simp only [SZ, Nat.reduceAdd]; exact rfl) ?_) | (refine aw_reg (by decide +kernel) (by simp only [SZ, Nat.reduceAdd]; exact rfl) ?_) | (refine aw_regS (by decide +kernel) (by simp only [SZ, Nat.reduceAdd]; exact rfl) ?_) | (refine arl_nil ?_) | (refine aw_skip ?_) | (refine aw_block ?_) | (refine aw_exit ?_) | (refine aw_ret ?_) | (refine arl_cons rfl rfl (by simp +decide only [aop, abuiltin, aeval, aintBin, bin_int, aload_bump, SS, reduceIte, reduceCtorEq]; exact rfl) (by first | rfl | with_reducible assumption) rfl ?_) | (refine arl_none rfl rfl (by simp +decide only [aop, abuiltin, aeval, aintBin, bin_int, aload_bump, SS, reduceIte, reduceCtorEq]; exact rfl) rfl rfl ?_) | (refine arl_off rfl rfl ?_) | (refine aw_condT (by simp +decide only [aop, abuiltin, aeval, aintBin, bin_int, aload_bump, SS, reduceIte, reduceCtorEq]; first | done | exact rfl) ?_) | (refine aw_condF (by simp +decide only [aop, abuiltin, aeval, aintBin, bin_int, aload_bump, SS, reduceIte, reduceCtorEq]; first | done | exact rfl) ?_))
  refine arl_call rfl rfl rfl rfl rfl rfl ((fbound_ok m).dead.wf (by repeat (first | assumption | (refine WF.bump ?_ _) | (refine WF.put ?_ (by simp only [n_bump, n_put, n_touch, n_kill] at *; omega) (by simp only [n_bump, n_put, n_touch, n_kill] at *; omega)))) |>.mono ?_)
  rintro r s1 ⟨hw1, hn1, hd1, hE1, rfl⟩
  refine ⟨rfl, ?_⟩
  have hE1' : Ext st s1 := Keeps.trans (show Ext st _ from (by repeat (first | exact Keeps.refl _ _ | (refine Keeps.bumpR ?_ _)))) hE1
  simp only [n_bump] at hn1
  repeat (first | (refine aw_seq ?_) | (refine aw_reg0 (by simp only [SZ, Nat.reduceAdd]; exact rfl) ?_) | (refine aw_reg (by decide +kernel) (by simp only [SZ, Nat.reduceAdd]; exact rfl) ?_) | (refine aw_regS (by decide +kernel) (by simp only [SZ, Nat.reduceAdd]; exact rfl) ?_) | (refine arl_nil ?_) | (refine aw_skip ?_) | (refine aw_block ?_) | (refine aw_exit ?_) | (refine aw_ret ?_) | (refine arl_cons rfl rfl (by simp +decide only [aop, abuiltin, aeval, aintBin, bin_int, aload_bump, SS, reduceIte, reduceCtorEq, bldP]; exact rfl) (by first | rfl | with_reducible assumption) rfl ?_) | (refine arl_none rfl rfl (by simp +decide only [aop, abuiltin, aeval, aintBin, bin_int, aload_bump, SS, reduceIte, reduceCtorEq, bldP]; exact rfl) rfl rfl ?_) | (refine arl_off rfl rfl ?_) | (refine aw_condT (by simp +decide only [aop, abuiltin, aeval, aintBin, bin_int, aload_bump, SS, reduceIte, reduceCtorEq, bldP]; first | done | exact rfl) ?_) | (refine aw_condF (by simp +decide only [aop, abuiltin, aeval, aintBin, bin_int, aload_bump, SS, reduceIte, reduceCtorEq, bldP]; first | done | exact rfl) ?_))
  refine ⟨.inr rfl, _, rfl, Keeps.putF hE1' (fresh hw (by first | omega | (simp only [n_bump, n_put]; omega) | (simp only [n_bump, n_put] at *; omega))), _, rfl, ?_, ?_, get_put _ _⟩
  · simp only [n_bump]; omega
  · simp only [n_bump, n_put] at *; omega
theorem ares1 {P : Program} {st : St} {fn : Func} {fr : AFr} {p q : Nat} {x : AV} (hr : fn.results = #[.cell p q]) (h : aload P st q (fr p) = some x) : aresults P st fn fr = some x := by
  simp [aresults, hr, aresult, h]
theorem ares2 {P : Program} {st : St} {fn : Func} {fr : AFr} {p q a : Nat} {x : AV} (hr : fn.results = #[.tmp a, .cell p q]) (h : aload P st q (fr p) = some x) : aresults P st fn fr = some (.tup [fr a, x]) := by
  simp [aresults, hr, aresult, h]
/-- What 'State' tells. -/
def stT (fr at_ held err : Int) : AV := .agg [i64 fr, i64 at_, i64 held, i64 err]
set_option maxHeartbeats 1000000 in
theorem state_ok {st : St} (hw : WF st) {KH KB : Nat → Prop} {p : Nat} {hv bv : AV} {M need pos fr at_ err : Int} {hd bd : List Int} (h : Pob st p hv bv M need pos fr at_ err) (hh : RdB st KH hv hd) (hb : RdB st KB bv bd) (hl : hd.length + bd.length ≤ 1000000000000) :
    ACalls Try.prog 17 [.ptr p 0] st (fun r s => Ext st s ∧ r = stT fr at_ ((hd.length + bd.length : Nat) : Int) err) := by
  obtain ⟨l0, l1, l2, l3, l4, l5, l6, l7, l8⟩ := h.lds
  have hhl := hh.len
  have hbl := hb.len
  have hhs := hh.solid
  have hbs := hb.solid
  have hwl : IntKind.i64.wrap ((hd.length : Int) + (bd.length : Int)) = ((hd.length + bd.length : Nat) : Int) := by rw [wrap64_of (by omega) (by omega)]; omega
  refine acalls_of Try.func17 rfl (by kernel_rfl) rfl ?_
  repeat (first | (refine aw_seq ?_) | (refine aw_reg0 (by simp only [SZ, Nat.reduceAdd]; exact rfl) ?_) | (refine aw_reg (by decide +kernel) (by simp only [SZ, Nat.reduceAdd]; exact rfl) ?_) | (refine aw_regS (by decide +kernel) (by simp only [SZ, Nat.reduceAdd]; exact rfl) ?_) | (refine arl_nil ?_) | (refine aw_skip ?_) | (refine aw_block ?_) | (refine aw_exit ?_) | (refine aw_ret ?_))
  refine arl_alloc rfl rfl rfl szST zST (fresh hw (by first | omega | (simp only [n_bump, n_put]; omega) | (simp only [n_bump, n_put] at *; omega))) ?_
  intro s1 hn1 hwf1 hE1 hg1 hD1
  have hw1 : WF s1 := hwf1 (by repeat (first | assumption | (refine WF.bump ?_ _))) (by simp only [n_bump, n_put, n_touch, n_kill] at *; omega)
  replace hE1 : Ext st s1 := Keeps.trans (show Ext st _ from (by repeat (first | exact Keeps.refl _ _ | (refine Keeps.bumpR ?_ _)))) hE1
  have l8' := aload_up hE1 l8
  obtain ⟨l0, l1, l2, l3, l4, l5, l6, l7, l8⟩ := (show Pob s1 p hv bv M need pos fr at_ err from hE1.get _ _ h (fun h => h)).lds
  repeat (first | (refine aw_seq ?_) | (refine aw_reg0 (by simp only [SZ, Nat.reduceAdd]; exact rfl) ?_) | (refine aw_reg (by decide +kernel) (by simp only [SZ, Nat.reduceAdd]; exact rfl) ?_) | (refine aw_regS (by decide +kernel) (by simp only [SZ, Nat.reduceAdd]; exact rfl) ?_) | (refine arl_nil ?_) | (refine aw_skip ?_) | (refine aw_block ?_) | (refine aw_exit ?_) | (refine aw_ret ?_) | (refine arl_cons rfl rfl (by simp +decide only [aop, abuiltin, aeval, aintBin, bin_int, aload_bump, SS, reduceIte, reduceCtorEq, fp5, l8]; exact rfl) (by first | rfl | with_reducible assumption) rfl ?_) | (refine arl_none rfl rfl (by simp +decide only [aop, abuiltin, aeval, aintBin, bin_int, aload_bump, SS, reduceIte, reduceCtorEq, fp5, l8]; exact rfl) rfl rfl ?_) | (refine arl_off rfl rfl ?_) | (refine aw_condT (by simp +decide only [aop, abuiltin, aeval, aintBin, bin_int, aload_bump, SS, reduceIte, reduceCtorEq, fp5, l8]; first | done | exact rfl) ?_) | (refine aw_condF (by simp +decide only [aop, abuiltin, aeval, aintBin, bin_int, aload_bump, SS, reduceIte, reduceCtorEq, fp5, l8]; first | done | exact rfl) ?_))
  refine arl_storeW (e := ST) (cs := [i64 fr, i64 at_, i64 0, i64 err]) rfl rfl rfl rfl rfl (get_put _ _) szST rfl rfl rfl rfl rfl ?_
  intro s2 hn2 hwf2 hK2 hg2 hD2
  have hn2' : s2.n = st.n + 7 := by rw [hn2]; simp only [n_put, n_bump] at *; omega
  have hw2 : WF s2 := hwf2 (WF.put (by repeat (first | assumption | (refine WF.bump ?_ _))) (by simp only [n_bump] at *; omega) (by simp only [n_bump] at *; omega))
  replace hK2 : Keeps (fun x => x = s1.n + 4) s1 s2 := Keeps.trans (Keeps.mono (G := fun _ => False) (show Ext s1 _ from (by repeat (first | assumption | exact Keeps.refl _ _ | (refine Keeps.bumpR ?_ _) | (refine Keeps.put ?_ (by assumption) (by simp only [n_bump, n_put, n_touch, n_kill] at *; omega))))) (fun _ h => h.elim)) hK2
  have hn1' : s1.n = st.n + 1 := by rw [hn1]; rfl
  have hS2 : Ext st s2 := Keeps.call hE1 hK2 hw (fun g h => .inr (by omega))
  obtain ⟨m0, m1, m2, m3, m4, m5, m6, m7, m8⟩ := (show Pob s2 p hv bv M need pos fr at_ err from hS2.get _ _ h (fun h => h)).lds
  have hgA : s2.get (s1.n + 4) = some ⟨[i64 fr, i64 at_, i64 0, i64 err], ST, true, s1.n + 4⟩ := hg2
  have hgR : s2.get (st.n + 0) = some ⟨[i64 0, i64 0, i64 0, i64 0], ST, true, st.n + 0⟩ := hK2.get _ _ hg1 (by simp only; omega)
  repeat (first | (refine aw_seq ?_) | (refine aw_reg0 (by simp only [SZ, Nat.reduceAdd]; exact rfl) ?_) | (refine aw_reg (by decide +kernel) (by simp only [SZ, Nat.reduceAdd]; exact rfl) ?_) | (refine aw_regS (by decide +kernel) (by simp only [SZ, Nat.reduceAdd]; exact rfl) ?_) | (refine arl_nil ?_) | (refine aw_skip ?_) | (refine aw_block ?_) | (refine aw_exit ?_) | (refine aw_ret ?_) | (refine arl_cons rfl rfl (by simp +decide only [aop, abuiltin, aeval, aintBin, bin_int, aload_bump, SS, reduceIte, reduceCtorEq, fp1, fp2, m1, m2, hhl, hbl, hwl, fs2]; exact rfl) (by first | rfl | with_reducible assumption) rfl ?_) | (refine arl_none rfl rfl (by simp +decide only [aop, abuiltin, aeval, aintBin, bin_int, aload_bump, SS, reduceIte, reduceCtorEq, fp1, fp2, m1, m2, hhl, hbl, hwl, fs2]; exact rfl) rfl rfl ?_) | (refine arl_off rfl rfl ?_) | (refine aw_condT (by simp +decide only [aop, abuiltin, aeval, aintBin, bin_int, aload_bump, SS, reduceIte, reduceCtorEq, fp1, fp2, m1, m2, hhl, hbl, hwl, fs2]; first | done | exact rfl) ?_) | (refine aw_condF (by simp +decide only [aop, abuiltin, aeval, aintBin, bin_int, aload_bump, SS, reduceIte, reduceCtorEq, fp1, fp2, m1, m2, hhl, hbl, hwl, fs2]; first | done | exact rfl) ?_))
  refine arl_storeX (off := 0 + 2) (y := i64 ((hd.length + bd.length : Nat) : Int)) rfl rfl rfl rfl rfl hgA szI rfl rfl rfl (by simp) ?_
  intro s3 hn3 hwf3 hK3 hg3 hD3
  have hw3 : WF s3 := hwf3 (by repeat (first | assumption | (refine WF.bump ?_ _)))
  have hS3 : Ext st s3 := Keeps.call (hS2.trans (by repeat (first | exact Keeps.refl _ _ | (refine Keeps.bumpR ?_ _)))) hK3 hw (fun g h => .inr (by omega))
  have hgR3 := hK3.get _ _ hgR (by simp only; omega)
  have hlA : aload Try.prog s3 ST (.ptr (s1.n + 4) 0) = some (stT fr at_ ((hd.length + bd.length : Nat) : Int) err) := load_agg Try.underlying34 rfl szST hg3 (by simp)
  repeat (first | (refine aw_seq ?_) | (refine aw_reg0 (by simp only [SZ, Nat.reduceAdd]; exact rfl) ?_) | (refine aw_reg (by decide +kernel) (by simp only [SZ, Nat.reduceAdd]; exact rfl) ?_) | (refine aw_regS (by decide +kernel) (by simp only [SZ, Nat.reduceAdd]; exact rfl) ?_) | (refine arl_nil ?_) | (refine aw_skip ?_) | (refine aw_block ?_) | (refine aw_exit ?_) | (refine aw_ret ?_) | (refine arl_cons rfl rfl (by simp +decide only [aop, abuiltin, aeval, aintBin, bin_int, aload_bump, SS, reduceIte, reduceCtorEq, hlA]; exact rfl) (by first | rfl | with_reducible assumption) rfl ?_) | (refine arl_none rfl rfl (by simp +decide only [aop, abuiltin, aeval, aintBin, bin_int, aload_bump, SS, reduceIte, reduceCtorEq, hlA]; exact rfl) rfl rfl ?_) | (refine arl_off rfl rfl ?_) | (refine aw_condT (by simp +decide only [aop, abuiltin, aeval, aintBin, bin_int, aload_bump, SS, reduceIte, reduceCtorEq, hlA]; first | done | exact rfl) ?_) | (refine aw_condF (by simp +decide only [aop, abuiltin, aeval, aintBin, bin_int, aload_bump, SS, reduceIte, reduceCtorEq, hlA]; first | done | exact rfl) ?_))
  refine arl_storeW (e := ST) (cs := [i64 fr, i64 at_, i64 ((hd.length + bd.length : Nat) : Int), i64 err]) rfl rfl rfl rfl rfl hgR3 szST rfl rfl rfl rfl rfl ?_
  intro s4 hn4 hwf4 hK4 hg4 hD4
  have hlR : aload Try.prog s4 ST (.ptr (st.n + 0) 0) = some (stT fr at_ ((hd.length + bd.length : Nat) : Int) err) := load_agg Try.underlying34 rfl szST hg4 (by simp)
  repeat (first | (refine aw_seq ?_) | (refine aw_reg0 (by simp only [SZ, Nat.reduceAdd]; exact rfl) ?_) | (refine aw_reg (by decide +kernel) (by simp only [SZ, Nat.reduceAdd]; exact rfl) ?_) | (refine aw_regS (by decide +kernel) (by simp only [SZ, Nat.reduceAdd]; exact rfl) ?_) | (refine arl_nil ?_) | (refine aw_skip ?_) | (refine aw_block ?_) | (refine aw_exit ?_) | (refine aw_ret ?_) | (refine arl_cons rfl rfl (by simp +decide only [aop, abuiltin, aeval, aintBin, bin_int, aload_bump, SS, reduceIte, reduceCtorEq]; exact rfl) (by first | rfl | with_reducible assumption) rfl ?_) | (refine arl_none rfl rfl (by simp +decide only [aop, abuiltin, aeval, aintBin, bin_int, aload_bump, SS, reduceIte, reduceCtorEq]; exact rfl) rfl rfl ?_) | (refine arl_off rfl rfl ?_) | (refine aw_condT (by simp +decide only [aop, abuiltin, aeval, aintBin, bin_int, aload_bump, SS, reduceIte, reduceCtorEq]; first | done | exact rfl) ?_) | (refine aw_condF (by simp +decide only [aop, abuiltin, aeval, aintBin, bin_int, aload_bump, SS, reduceIte, reduceCtorEq]; first | done | exact rfl) ?_))
  exact ⟨.inr rfl, _, ares1 rfl hlR, Keeps.call (hS3.trans (by repeat (first | exact Keeps.refl _ _ | (refine Keeps.bumpR ?_ _)))) hK4 hw (fun g h => .inr (by omega)), rfl⟩
end Go.Proofs.Ytoccmjhgmoandaa.Ra
