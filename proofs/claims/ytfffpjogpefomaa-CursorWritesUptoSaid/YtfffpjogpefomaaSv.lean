/- leatlaw01.CursorReads. -/
import Derived.Test.YtfffpjogpefomaaSu
import Derived.Test.YtfffpjogpefomaaRw
import Derived.Test.YtfffpjogpefomaaRr
import Derived.Test.YtfffpjogpefomaaSk
namespace Go.Proofs.Ytfffpjogpefomaa.Ra
open Go Go.RowKit
set_option linter.unusedVariables false
set_option linter.unusedSimpArgs false
set_option maxRecDepth 10000
abbrev OpT : Type := Int × Int × Int × List (List Int)
def opK : EK OpT where
  s := 4
  R := fun st K cs o => ∃ p, cs = [i64 o.1, i64 o.2.1, i64 o.2.2.1, p] ∧ RdE rowK st K p o.2.2.2
  keep := fun hk hd c x ⟨v, h1, h2⟩ => ⟨v, h1, h2.keep hk hd⟩
  mono := fun hk c x ⟨v, h1, h2⟩ => ⟨v, h1, h2.mono hk⟩
  lt := fun hw c x ⟨v, h1, h2⟩ => ⟨v, h1, h2.lt hw⟩
  one := fun c x ⟨v, h1, h2⟩ => by
    subst h1
    have : v.one = true := by
      rcases h2 with ⟨_, ⟨q, c, rfl⟩ | ⟨i, off, es, rfl⟩⟩ | ⟨i, off, es, o, rfl, _⟩ <;> rfl
    simp [this]
    exact ⟨rfl, rfl, rfl⟩
  len := fun c x ⟨v, h1, h2⟩ => by subst h1; rfl
theorem TOP : TF Try.prog 31 OP opK.s 48 := TF.of (by kernel_rfl) (by kernel_rfl) (by decide)
theorem opSt : ∃ fs, Try.prog.underlying OP = some (.struct fs) := ⟨_, Try.underlying35⟩
theorem op_load {st : St} {K : Nat → Prop} {v : AV} {os : List OpT} (h : RdE opK st K v os) (j : Nat) (hj : j < os.length) :
    ∃ p pv, aindexAddr Try.prog 31 v (i64 j) = some p ∧ p.solid = true ∧ aload Try.prog st OP p = some (.agg [i64 os[j].1, i64 os[j].2.1, i64 os[j].2.2.1, pv]) ∧ RdE rowK st K pv os[j].2.2.2 ∧ pv.solid = true ∧ pv.one = true := by
  obtain ⟨p, cs, h1, h2, h3, pv, rfl, h5⟩ := h.load TOP Try.underlying35 rfl .i64 j hj
  refine ⟨p, pv, h1, h2, h3, h5, h5.solid, ?_⟩
  rcases h5 with ⟨_, ⟨q, c, rfl⟩ | ⟨i, off, es, rfl⟩⟩ | ⟨i, off, es, o, rfl, _⟩ <;> rfl
theorem opAgg {s : St} {id g : Nat} {kind n v : Int} {pv : AV} (h : s.get id = some ⟨[i64 kind, i64 n, i64 v, pv], OP, true, g⟩) : aload Try.prog s OP (.ptr id 0) = some (.agg [i64 kind, i64 n, i64 v, pv]) :=
  load_agg Try.underlying35 rfl szOP h (by simp)
set_option maxHeartbeats 4000000 in
theorem reads_ok {st : St} (hw : WF st) {b v : AV} {xs : List Int} {os : List OpT} (hb : RdB st (fun _ => True) b xs) (hv : RdE opK st (fun _ => True) v os) (hl : xs.length ≤ 1048576) (hol : os.length ≤ 1048576) (hby : ∀ x ∈ xs, 0 ≤ x ∧ x < 256) (hn : ∀ o ∈ os, -9223372036854775808 ≤ o.2.1 ∧ o.2.1 ≤ 9223372036854775807) :
    ACalls Try.prog 6 [b, v] st (fun r s => r = .pl (.bool true)) := by
  replace hb := hb.lt hw
  replace hv := hv.lt hw
  have hbs := hb.solid
  have hvs := hv.solid
  refine acalls_of Try.func6 rfl (by kernel_rfl) (by simp [hbs, hvs]) ?_
  repeat (first | (refine aw_seq ?_) | (refine aw_reg0 (by simp only [SZ, Nat.reduceAdd]; exact rfl) ?_) | (refine aw_reg (by decide +kernel) (by simp only [SZ, Nat.reduceAdd]; exact rfl) ?_) | (refine aw_regS (by decide +kernel) (by simp only [SZ, Nat.reduceAdd]; exact rfl) ?_) | (refine arl_nil ?_) | (refine aw_skip ?_) | (refine aw_block ?_) | (refine aw_exit ?_) | (refine aw_ret ?_) | (refine arl_cons rfl rfl (by simp +decide only [aop, abuiltin, aeval, aintBin, bin_int, aload_bump, SS, reduceIte, reduceCtorEq]; exact rfl) (by first | rfl | assumption) rfl ?_) | (refine arl_none rfl rfl (by simp +decide only [aop, abuiltin, aeval, aintBin, bin_int, aload_bump, SS, reduceIte, reduceCtorEq]; exact rfl) rfl rfl ?_) | (refine arl_off rfl rfl ?_) | (refine aw_condT (by simp +decide only [aop, abuiltin, aeval, aintBin, bin_int, aload_bump, SS, reduceIte, reduceCtorEq]; first | done | exact rfl) ?_) | (refine aw_condF (by simp +decide only [aop, abuiltin, aeval, aintBin, bin_int, aload_bump, SS, reduceIte, reduceCtorEq]; first | done | exact rfl) ?_))
  refine arl_call rfl rfl rfl rfl rfl rfl ((copy_ok (by repeat (first | assumption | (refine WF.bump ?_ _))) (hb.up (by repeat (first | exact Keeps.refl _ _ | (refine Keeps.bumpR ?_ _)))) (by omega)).wf (by repeat (first | assumption | (refine WF.bump ?_ _) | (refine WF.put ?_ (by simp only [n_bump, n_put, n_touch, n_kill] at *; omega) (by simp only [n_bump, n_put, n_touch, n_kill] at *; omega)))) |>.mono ?_)
  rintro c s1 ⟨hw1, hn1, hE1, hcs, hC⟩
  refine ⟨by first | rfl | assumption, ?_⟩
  replace hE1 : Ext st s1 := Keeps.trans (by repeat (first | assumption | exact Keeps.refl _ _ | (refine Keeps.bumpR ?_ _) | (refine Keeps.put ?_ (by assumption) (by simp only [n_bump, n_put, n_touch, n_kill] at *; omega)))) hE1
  have hN1 := hE1.n
  repeat (first | (refine aw_seq ?_) | (refine aw_reg0 (by simp only [SZ, Nat.reduceAdd]; exact rfl) ?_) | (refine aw_reg (by decide +kernel) (by simp only [SZ, Nat.reduceAdd]; exact rfl) ?_) | (refine aw_regS (by decide +kernel) (by simp only [SZ, Nat.reduceAdd]; exact rfl) ?_) | (refine arl_nil ?_) | (refine aw_skip ?_) | (refine aw_block ?_) | (refine aw_exit ?_) | (refine aw_ret ?_) | (refine arl_cons rfl rfl (by simp +decide only [aop, abuiltin, aeval, aintBin, bin_int, aload_bump, SS, reduceIte, reduceCtorEq]; exact rfl) (by first | rfl | assumption) rfl ?_) | (refine arl_none rfl rfl (by simp +decide only [aop, abuiltin, aeval, aintBin, bin_int, aload_bump, SS, reduceIte, reduceCtorEq]; exact rfl) rfl rfl ?_) | (refine arl_off rfl rfl ?_) | (refine aw_condT (by simp +decide only [aop, abuiltin, aeval, aintBin, bin_int, aload_bump, SS, reduceIte, reduceCtorEq]; first | done | exact rfl) ?_) | (refine aw_condF (by simp +decide only [aop, abuiltin, aeval, aintBin, bin_int, aload_bump, SS, reduceIte, reduceCtorEq]; first | done | exact rfl) ?_))
  refine arl_call rfl rfl rfl rfl rfl rfl ((newReader_ok (by repeat (first | assumption | (refine WF.bump ?_ _))) (hC.rd.up (by repeat (first | exact Keeps.refl _ _ | (refine Keeps.bumpR ?_ _)))) (by omega)).wf (by repeat (first | assumption | (refine WF.bump ?_ _) | (refine WF.put ?_ (by simp only [n_bump, n_put, n_touch, n_kill] at *; omega) (by simp only [n_bump, n_put, n_touch, n_kill] at *; omega)))) |>.mono ?_)
  rintro rd s2 ⟨hw2, hn2, hE2, hrs, hR⟩
  refine ⟨by first | rfl | assumption, ?_⟩
  replace hE2 : Ext s1 s2 := Keeps.trans (by repeat (first | assumption | exact Keeps.refl _ _ | (refine Keeps.bumpR ?_ _) | (refine Keeps.put ?_ (by assumption) (by simp only [n_bump, n_put, n_touch, n_kill] at *; omega)))) hE2
  have hN2 := hE2.n
  replace hE2 := hE1.trans hE2
  replace hN2 := hE2.n
  replace hR := hR.lt hw2
  have hpr := hR.ne_nil Try.underlying41
  repeat (first | (refine aw_seq ?_) | (refine aw_reg0 (by simp only [SZ, Nat.reduceAdd]; exact rfl) ?_) | (refine aw_reg (by decide +kernel) (by simp only [SZ, Nat.reduceAdd]; exact rfl) ?_) | (refine aw_regS (by decide +kernel) (by simp only [SZ, Nat.reduceAdd]; exact rfl) ?_) | (refine arl_nil ?_) | (refine aw_skip ?_) | (refine aw_block ?_) | (refine aw_exit ?_) | (refine aw_ret ?_) | (refine arl_cons rfl rfl (by simp +decide only [aop, abuiltin, aeval, aintBin, bin_int, aload_bump, SS, reduceIte, reduceCtorEq, hpr]; exact rfl) (by first | rfl | assumption) rfl ?_) | (refine arl_none rfl rfl (by simp +decide only [aop, abuiltin, aeval, aintBin, bin_int, aload_bump, SS, reduceIte, reduceCtorEq, hpr]; exact rfl) rfl rfl ?_) | (refine arl_off rfl rfl ?_) | (refine aw_condT (by simp +decide only [aop, abuiltin, aeval, aintBin, bin_int, aload_bump, SS, reduceIte, reduceCtorEq, hpr]; first | done | exact rfl) ?_) | (refine aw_condF (by simp +decide only [aop, abuiltin, aeval, aintBin, bin_int, aload_bump, SS, reduceIte, reduceCtorEq, hpr]; first | done | exact rfl) ?_))
  refine arl_call rfl rfl rfl rfl rfl rfl ((alive_ok (by repeat (first | assumption | (refine WF.bump ?_ _)))).wf (by repeat (first | assumption | (refine WF.bump ?_ _) | (refine WF.put ?_ (by simp only [n_bump, n_put, n_touch, n_kill] at *; omega) (by simp only [n_bump, n_put, n_touch, n_kill] at *; omega)))) |>.mono ?_)
  rintro r s3 ⟨hw3, hn3, hE3, rfl⟩
  refine ⟨by first | rfl | assumption, ?_⟩
  replace hE3 : Ext s2 s3 := Keeps.trans (by repeat (first | assumption | exact Keeps.refl _ _ | (refine Keeps.bumpR ?_ _) | (refine Keeps.put ?_ (by assumption) (by simp only [n_bump, n_put, n_touch, n_kill] at *; omega)))) hE3
  have hN3 := hE3.n
  replace hR := (hR.up hE3).mono (K' := fun g => st.n ≤ g) (fun g h => by simp only [n_bump] at *; omega)
  replace hE3 := hE2.trans hE3
  replace hN3 := hE3.n
  have hln := RdE.len hv TOP
  repeat (first | (refine aw_seq ?_) | (refine aw_reg0 (by simp only [SZ, Nat.reduceAdd]; exact rfl) ?_) | (refine aw_reg (by decide +kernel) (by simp only [SZ, Nat.reduceAdd]; exact rfl) ?_) | (refine aw_regS (by decide +kernel) (by simp only [SZ, Nat.reduceAdd]; exact rfl) ?_) | (refine arl_nil ?_) | (refine aw_skip ?_) | (refine aw_block ?_) | (refine aw_exit ?_) | (refine aw_ret ?_) | (refine arl_cons rfl rfl (by simp +decide only [aop, abuiltin, aeval, aintBin, bin_int, aload_bump, SS, reduceIte, reduceCtorEq, hln]; exact rfl) (by first | rfl | assumption) rfl ?_) | (refine arl_none rfl rfl (by simp +decide only [aop, abuiltin, aeval, aintBin, bin_int, aload_bump, SS, reduceIte, reduceCtorEq, hln]; exact rfl) rfl rfl ?_) | (refine arl_off rfl rfl ?_) | (refine aw_condT (by simp +decide only [aop, abuiltin, aeval, aintBin, bin_int, aload_bump, SS, reduceIte, reduceCtorEq, hln]; first | done | exact rfl) ?_) | (refine aw_condF (by simp +decide only [aop, abuiltin, aeval, aintBin, bin_int, aload_bump, SS, reduceIte, reduceCtorEq, hln]; first | done | exact rfl) ?_))
  refine AW.mono (AW.wf (aw_rounds_wf (fun d fr s => Ext st s ∧ ∃ (k a : Nat), k ≤ os.length ∧ d = os.length - k ∧ a ≤ xs.length ∧ fr 0 = b ∧ fr 5 = rd ∧ fr 6 = i64 a ∧ fr 20 = v ∧ fr 21 = i64 os.length ∧ fr 22 = i64 k ∧ BxO s (fun g => st.n ≤ g) RD rd xs a)
    (Q := fun e fr s => e = .exit 0 ∧ Ext st s ∧ ∃ a : Nat, a ≤ xs.length ∧ fr 0 = b ∧ fr 5 = rd ∧ fr 6 = i64 a ∧ BxO s (fun g => st.n ≤ g) RD rd xs a) ?_ os.length _ _ (by repeat (first | assumption | (refine WF.bump ?_ _))) ?_) (by repeat (first | assumption | (refine WF.bump ?_ _)))) ?_
  · rintro d fr s hws ⟨hE, k, a, hk, rfl, ha, f0, f5, f6, f20, f21, f22, hR⟩
    have hEn := hE.n
    have hvk := hv.up hE
    have hbk := hb.up hE
    by_cases hlt : k < os.length
    · have hd : decide ((k : Int) < (os.length : Int)) = true := decide_eq_true (by omega)
      obtain ⟨q, pv, hp1, hp2, hp3, hp4, hp5, hp6⟩ := op_load hvk k hlt
      repeat (first | (refine aw_seq ?_) | (refine aw_reg0 (by simp only [SZ, Nat.reduceAdd]; exact rfl) ?_) | (refine aw_reg (by decide +kernel) (by simp only [SZ, Nat.reduceAdd]; exact rfl) ?_) | (refine aw_regS (by decide +kernel) (by simp only [SZ, Nat.reduceAdd]; exact rfl) ?_) | (refine arl_nil ?_) | (refine aw_skip ?_) | (refine aw_block ?_) | (refine aw_exit ?_) | (refine aw_ret ?_))
      repeat (first | (refine aw_seq ?_) | (refine aw_reg0 (by simp only [SZ, Nat.reduceAdd]; exact rfl) ?_) | (refine aw_reg (by decide +kernel) (by simp only [SZ, Nat.reduceAdd]; exact rfl) ?_) | (refine aw_regS (by decide +kernel) (by simp only [SZ, Nat.reduceAdd]; exact rfl) ?_) | (refine arl_nil ?_) | (refine aw_skip ?_) | (refine aw_block ?_) | (refine aw_exit ?_) | (refine aw_ret ?_) | (refine arl_cons rfl rfl (by simp +decide only [aop, abuiltin, aeval, aintBin, bin_int, aload_bump, SS, reduceIte, reduceCtorEq, f21, f22, hd]; exact rfl) (by first | rfl | assumption) rfl ?_) | (refine arl_none rfl rfl (by simp +decide only [aop, abuiltin, aeval, aintBin, bin_int, aload_bump, SS, reduceIte, reduceCtorEq, f21, f22, hd]; exact rfl) rfl rfl ?_) | (refine arl_off rfl rfl ?_) | (refine aw_condT (by simp +decide only [aop, abuiltin, aeval, aintBin, bin_int, aload_bump, SS, reduceIte, reduceCtorEq, f21, f22, hd]; first | done | exact rfl) ?_) | (refine aw_condF (by simp +decide only [aop, abuiltin, aeval, aintBin, bin_int, aload_bump, SS, reduceIte, reduceCtorEq, f21, f22, hd]; first | done | exact rfl) ?_))
      refine arl_cons rfl rfl (by simp +decide only [aop, abuiltin, aeval, aintBin, bin_int, aload_bump, SS, reduceIte, reduceCtorEq, f20, f22, hp1]; exact rfl) (by first | rfl | assumption) rfl ?_
      refine arl_cons rfl rfl (by simp +decide only [aop, abuiltin, aeval, aintBin, bin_int, aload_bump, SS, reduceIte, reduceCtorEq, hp3]; exact rfl) (by first | rfl | assumption) rfl ?_
      refine arl_alloc rfl rfl rfl szOP zOP (fresh hws (by simp only [n_bump]; omega)) ?_
      intro s1 hn1 hwf1 hE1 hg1 hD1
      have hw1 : WF s1 := hwf1 (by repeat (first | assumption | (refine WF.bump ?_ _))) (by simp only [n_bump, n_put, n_touch, n_kill] at *; omega)
      refine arl_storeW (e := OP) (cs := [i64 os[k].1, i64 os[k].2.1, i64 os[k].2.2.1, pv]) rfl rfl rfl rfl rfl hg1 szOP rfl rfl rfl (by simp [hp6]; exact ⟨rfl, rfl, rfl⟩) rfl ?_
      intro s2 hn2 hwf2 hE2 hg2 hD2
      have hw2 : WF s2 := hwf2 hw1
      replace hE2 : Ext s s2 := Keeps.call ((show Ext s _ from (by repeat (first | exact Keeps.refl _ _ | (refine Keeps.bumpR ?_ _)))).trans hE1) hE2 hws (by simp only [n_bump]; intro g h; right; omega)
      have hN2 := hE2.n
      have hoa := opAgg hg2
      repeat (first | (refine aw_seq ?_) | (refine aw_reg0 (by simp only [SZ, Nat.reduceAdd]; exact rfl) ?_) | (refine aw_reg (by decide +kernel) (by simp only [SZ, Nat.reduceAdd]; exact rfl) ?_) | (refine aw_regS (by decide +kernel) (by simp only [SZ, Nat.reduceAdd]; exact rfl) ?_) | (refine arl_nil ?_) | (refine aw_skip ?_) | (refine aw_block ?_) | (refine aw_exit ?_) | (refine aw_ret ?_) | (refine arl_cons rfl rfl (by simp +decide only [aop, abuiltin, aeval, aintBin, bin_int, aload_bump, SS, reduceIte, reduceCtorEq, f0, f5, f6, hoa]; exact rfl) (by first | rfl | assumption) rfl ?_) | (refine arl_none rfl rfl (by simp +decide only [aop, abuiltin, aeval, aintBin, bin_int, aload_bump, SS, reduceIte, reduceCtorEq, f0, f5, f6, hoa]; exact rfl) rfl rfl ?_) | (refine arl_off rfl rfl ?_) | (refine aw_condT (by simp +decide only [aop, abuiltin, aeval, aintBin, bin_int, aload_bump, SS, reduceIte, reduceCtorEq, f0, f5, f6, hoa]; first | done | exact rfl) ?_) | (refine aw_condF (by simp +decide only [aop, abuiltin, aeval, aintBin, bin_int, aload_bump, SS, reduceIte, reduceCtorEq, f0, f5, f6, hoa]; first | done | exact rfl) ?_))
      have hkn := hn _ (List.getElem_mem hlt)
      refine arl_call rfl rfl rfl rfl rfl rfl ((read_ok (K := fun g => st.n ≤ g) (by repeat (first | assumption | (refine WF.bump ?_ _))) ((hR.up hE2).up (by repeat (first | exact Keeps.refl _ _ | (refine Keeps.bumpR ?_ _)))) ((hbk.up hE2).up (by repeat (first | exact Keeps.refl _ _ | (refine Keeps.bumpR ?_ _)))) (by intro g h; have := h.2; omega) os[k].1 os[k].2.1 os[k].2.2.1 hp5 ha hl hby hkn).wf (by repeat (first | assumption | (refine WF.bump ?_ _) | (refine WF.put ?_ (by simp only [n_bump, n_put, n_touch, n_kill] at *; omega) (by simp only [n_bump, n_put, n_touch, n_kill] at *; omega)))) |>.mono ?_)
      rintro r s3 ⟨hw3, hn3, hE3, a', ha', rfl, hR3⟩
      refine ⟨rfl, ?_⟩
      replace hE3 : Ext st s3 := Keeps.call (hE.trans (hE2.trans (by repeat (first | exact Keeps.refl _ _ | (refine Keeps.bumpR ?_ _))))) hE3 hw (fun g h => .inr h)
      have hN3 := hE3.n
      repeat (first | (refine aw_seq ?_) | (refine aw_reg0 (by simp only [SZ, Nat.reduceAdd]; exact rfl) ?_) | (refine aw_reg (by decide +kernel) (by simp only [SZ, Nat.reduceAdd]; exact rfl) ?_) | (refine aw_regS (by decide +kernel) (by simp only [SZ, Nat.reduceAdd]; exact rfl) ?_) | (refine arl_nil ?_) | (refine aw_skip ?_) | (refine aw_block ?_) | (refine aw_exit ?_) | (refine aw_ret ?_) | (refine arl_cons rfl rfl (by simp +decide only [aop, abuiltin, aeval, aintBin, bin_int, aload_bump, SS, reduceIte, reduceCtorEq, f0, f5, List.getElem?_cons_zero, List.getElem?_cons_succ]; exact rfl) (by first | rfl | assumption) rfl ?_) | (refine arl_none rfl rfl (by simp +decide only [aop, abuiltin, aeval, aintBin, bin_int, aload_bump, SS, reduceIte, reduceCtorEq, f0, f5, List.getElem?_cons_zero, List.getElem?_cons_succ]; exact rfl) rfl rfl ?_) | (refine arl_off rfl rfl ?_) | (refine aw_condT (by simp +decide only [aop, abuiltin, aeval, aintBin, bin_int, aload_bump, SS, reduceIte, reduceCtorEq, f0, f5, List.getElem?_cons_zero, List.getElem?_cons_succ]; first | done | exact rfl) ?_) | (refine aw_condF (by simp +decide only [aop, abuiltin, aeval, aintBin, bin_int, aload_bump, SS, reduceIte, reduceCtorEq, f0, f5, List.getElem?_cons_zero, List.getElem?_cons_succ]; first | done | exact rfl) ?_))
      refine arl_call rfl rfl rfl rfl rfl rfl ((rat_ok (hR3.up (by repeat (first | exact Keeps.refl _ _ | (refine Keeps.bumpR ?_ _))))).wf (by repeat (first | assumption | (refine WF.bump ?_ _) | (refine WF.put ?_ (by simp only [n_bump, n_put, n_touch, n_kill] at *; omega) (by simp only [n_bump, n_put, n_touch, n_kill] at *; omega)))) |>.mono ?_)
      rintro r s4 ⟨hw4, hn4, hE4, rfl⟩
      refine ⟨by first | rfl | assumption, ?_⟩
      replace hE4 : Ext s3 s4 := Keeps.trans (by repeat (first | assumption | exact Keeps.refl _ _ | (refine Keeps.bumpR ?_ _) | (refine Keeps.put ?_ (by assumption) (by simp only [n_bump, n_put, n_touch, n_kill] at *; omega)))) hE4
      have hN4 := hE4.n
      replace hR3 := hR3.up hE4
      have hbq : ((a' : Int) != (a' : Int)) = false := by simp
      repeat (first | (refine aw_seq ?_) | (refine aw_reg0 (by simp only [SZ, Nat.reduceAdd]; exact rfl) ?_) | (refine aw_reg (by decide +kernel) (by simp only [SZ, Nat.reduceAdd]; exact rfl) ?_) | (refine aw_regS (by decide +kernel) (by simp only [SZ, Nat.reduceAdd]; exact rfl) ?_) | (refine arl_nil ?_) | (refine aw_skip ?_) | (refine aw_block ?_) | (refine aw_exit ?_) | (refine aw_ret ?_) | (refine arl_cons rfl rfl (by simp +decide only [aop, abuiltin, aeval, aintBin, bin_int, aload_bump, SS, reduceIte, reduceCtorEq, f0, f5, hbq]; exact rfl) (by first | rfl | assumption) rfl ?_) | (refine arl_none rfl rfl (by simp +decide only [aop, abuiltin, aeval, aintBin, bin_int, aload_bump, SS, reduceIte, reduceCtorEq, f0, f5, hbq]; exact rfl) rfl rfl ?_) | (refine arl_off rfl rfl ?_) | (refine aw_condT (by simp +decide only [aop, abuiltin, aeval, aintBin, bin_int, aload_bump, SS, reduceIte, reduceCtorEq, f0, f5, hbq]; first | done | exact rfl) ?_) | (refine aw_condF (by simp +decide only [aop, abuiltin, aeval, aintBin, bin_int, aload_bump, SS, reduceIte, reduceCtorEq, f0, f5, hbq]; first | done | exact rfl) ?_))
      refine arl_call rfl rfl rfl rfl rfl rfl ((rleft_ok (hR3.up (by repeat (first | exact Keeps.refl _ _ | (refine Keeps.bumpR ?_ _)))) (by omega) (by omega)).wf (by repeat (first | assumption | (refine WF.bump ?_ _) | (refine WF.put ?_ (by simp only [n_bump, n_put, n_touch, n_kill] at *; omega) (by simp only [n_bump, n_put, n_touch, n_kill] at *; omega)))) |>.mono ?_)
      rintro r s5 ⟨hw5, hn5, hE5, rfl⟩
      refine ⟨by first | rfl | assumption, ?_⟩
      replace hE5 : Ext s4 s5 := Keeps.trans (by repeat (first | assumption | exact Keeps.refl _ _ | (refine Keeps.bumpR ?_ _) | (refine Keeps.put ?_ (by assumption) (by simp only [n_bump, n_put, n_touch, n_kill] at *; omega)))) hE5
      have hN5 := hE5.n
      replace hR3 := hR3.up hE5
      have hwl : IntKind.i64.wrap ((xs.length : Int) - (a' : Int)) = (xs.length : Int) - (a' : Int) := wrap64_of (by omega) (by omega)
      have hbq2 : ((xs.length : Int) - (a' : Int) != (xs.length : Int) - (a' : Int)) = false := by simp
      have hbl := hb.len
      have hwk := wrap_succ (k := k) (by omega)
      repeat (first | (refine aw_seq ?_) | (refine aw_reg0 (by simp only [SZ, Nat.reduceAdd]; exact rfl) ?_) | (refine aw_reg (by decide +kernel) (by simp only [SZ, Nat.reduceAdd]; exact rfl) ?_) | (refine aw_regS (by decide +kernel) (by simp only [SZ, Nat.reduceAdd]; exact rfl) ?_) | (refine arl_nil ?_) | (refine aw_skip ?_) | (refine aw_block ?_) | (refine aw_exit ?_) | (refine aw_ret ?_) | (refine arl_cons rfl rfl (by simp +decide only [aop, abuiltin, aeval, aintBin, bin_int, aload_bump, SS, reduceIte, reduceCtorEq, f0, f5, f22, hbl, hwl, hbq2, hwk]; exact rfl) (by first | rfl | assumption) rfl ?_) | (refine arl_none rfl rfl (by simp +decide only [aop, abuiltin, aeval, aintBin, bin_int, aload_bump, SS, reduceIte, reduceCtorEq, f0, f5, f22, hbl, hwl, hbq2, hwk]; exact rfl) rfl rfl ?_) | (refine arl_off rfl rfl ?_) | (refine aw_condT (by simp +decide only [aop, abuiltin, aeval, aintBin, bin_int, aload_bump, SS, reduceIte, reduceCtorEq, f0, f5, f22, hbl, hwl, hbq2, hwk]; first | done | exact rfl) ?_) | (refine aw_condF (by simp +decide only [aop, abuiltin, aeval, aintBin, bin_int, aload_bump, SS, reduceIte, reduceCtorEq, f0, f5, f22, hbl, hwl, hbq2, hwk]; first | done | exact rfl) ?_))
      exact ⟨os.length - (k + 1), by omega, (hE3.trans hE4).trans (hE5.trans (by repeat (first | exact Keeps.refl _ _ | (refine Keeps.bumpR ?_ _)))), k + 1, a', by omega, rfl, ha', f0, f5, rfl, f20, f21, rfl, hR3.up (by repeat (first | exact Keeps.refl _ _ | (refine Keeps.bumpR ?_ _)))⟩
    · have hd : decide ((k : Int) < (os.length : Int)) = false := decide_eq_false (by omega)
      repeat (first | (refine aw_seq ?_) | (refine aw_reg0 (by simp only [SZ, Nat.reduceAdd]; exact rfl) ?_) | (refine aw_reg (by decide +kernel) (by simp only [SZ, Nat.reduceAdd]; exact rfl) ?_) | (refine aw_regS (by decide +kernel) (by simp only [SZ, Nat.reduceAdd]; exact rfl) ?_) | (refine arl_nil ?_) | (refine aw_skip ?_) | (refine aw_block ?_) | (refine aw_exit ?_) | (refine aw_ret ?_) | (refine arl_cons rfl rfl (by simp +decide only [aop, abuiltin, aeval, aintBin, bin_int, aload_bump, SS, reduceIte, reduceCtorEq, f21, f22, hd]; exact rfl) (by first | rfl | assumption) rfl ?_) | (refine arl_none rfl rfl (by simp +decide only [aop, abuiltin, aeval, aintBin, bin_int, aload_bump, SS, reduceIte, reduceCtorEq, f21, f22, hd]; exact rfl) rfl rfl ?_) | (refine arl_off rfl rfl ?_) | (refine aw_condT (by simp +decide only [aop, abuiltin, aeval, aintBin, bin_int, aload_bump, SS, reduceIte, reduceCtorEq, f21, f22, hd]; first | done | exact rfl) ?_) | (refine aw_condF (by simp +decide only [aop, abuiltin, aeval, aintBin, bin_int, aload_bump, SS, reduceIte, reduceCtorEq, f21, f22, hd]; first | done | exact rfl) ?_))
      exact ⟨rfl, hE.trans (by repeat (first | exact Keeps.refl _ _ | (refine Keeps.bumpR ?_ _))), a, ha, f0, f5, f6, hR.up (by repeat (first | exact Keeps.refl _ _ | (refine Keeps.bumpR ?_ _)))⟩
  · exact ⟨hE3.trans (by repeat (first | exact Keeps.refl _ _ | (refine Keeps.bumpR ?_ _))), 0, 0, by omega, rfl, by omega, rfl, rfl, rfl, rfl, rfl, rfl, hR.up (by repeat (first | exact Keeps.refl _ _ | (refine Keeps.bumpR ?_ _)))⟩
  rintro e fr sx ⟨hws, hns, rfl, hE, a, ha, f0, f5, f6, hR⟩
  have hbl := hb.len
  have hwl : IntKind.i64.wrap ((xs.length : Int) - (a : Int)) = (xs.length : Int) - (a : Int) := wrap64_of (by omega) (by omega)
  have hbq := beq_i (a : Int)
  have hbq2 := beq_i ((xs.length : Int) - (a : Int))
  repeat (first | (refine aw_seq ?_) | (refine aw_reg0 (by simp only [SZ, Nat.reduceAdd]; exact rfl) ?_) | (refine aw_reg (by decide +kernel) (by simp only [SZ, Nat.reduceAdd]; exact rfl) ?_) | (refine aw_regS (by decide +kernel) (by simp only [SZ, Nat.reduceAdd]; exact rfl) ?_) | (refine arl_nil ?_) | (refine aw_skip ?_) | (refine aw_block ?_) | (refine aw_exit ?_) | (refine aw_ret ?_) | (refine arl_cons rfl rfl (by simp +decide only [aop, abuiltin, aeval, aintBin, bin_int, aload_bump, SS, reduceIte, reduceCtorEq, f0, f5, f6]; exact rfl) (by first | rfl | assumption) rfl ?_) | (refine arl_none rfl rfl (by simp +decide only [aop, abuiltin, aeval, aintBin, bin_int, aload_bump, SS, reduceIte, reduceCtorEq, f0, f5, f6]; exact rfl) rfl rfl ?_) | (refine arl_off rfl rfl ?_) | (refine aw_condT (by simp +decide only [aop, abuiltin, aeval, aintBin, bin_int, aload_bump, SS, reduceIte, reduceCtorEq, f0, f5, f6]; first | done | exact rfl) ?_) | (refine aw_condF (by simp +decide only [aop, abuiltin, aeval, aintBin, bin_int, aload_bump, SS, reduceIte, reduceCtorEq, f0, f5, f6]; first | done | exact rfl) ?_))
  refine arl_call rfl rfl rfl rfl rfl rfl ((rat_ok (hR.up (by repeat (first | exact Keeps.refl _ _ | (refine Keeps.bumpR ?_ _))))).wf (by repeat (first | assumption | (refine WF.bump ?_ _) | (refine WF.put ?_ (by simp only [n_bump, n_put, n_touch, n_kill] at *; omega) (by simp only [n_bump, n_put, n_touch, n_kill] at *; omega)))) |>.mono ?_)
  rintro r s1 ⟨hw1, hn1, hE1, rfl⟩
  refine ⟨by first | rfl | assumption, ?_⟩
  replace hE1 : Ext sx s1 := Keeps.trans (by repeat (first | assumption | exact Keeps.refl _ _ | (refine Keeps.bumpR ?_ _) | (refine Keeps.put ?_ (by assumption) (by simp only [n_bump, n_put, n_touch, n_kill] at *; omega)))) hE1
  have hN1 := hE1.n
  repeat (first | (refine aw_seq ?_) | (refine aw_reg0 (by simp only [SZ, Nat.reduceAdd]; exact rfl) ?_) | (refine aw_reg (by decide +kernel) (by simp only [SZ, Nat.reduceAdd]; exact rfl) ?_) | (refine aw_regS (by decide +kernel) (by simp only [SZ, Nat.reduceAdd]; exact rfl) ?_) | (refine arl_nil ?_) | (refine aw_skip ?_) | (refine aw_block ?_) | (refine aw_exit ?_) | (refine aw_ret ?_) | (refine arl_cons rfl rfl (by simp +decide only [aop, abuiltin, aeval, aintBin, bin_int, aload_bump, SS, reduceIte, reduceCtorEq, f0, f5, f6, hbq]; exact rfl) (by first | rfl | assumption) rfl ?_) | (refine arl_none rfl rfl (by simp +decide only [aop, abuiltin, aeval, aintBin, bin_int, aload_bump, SS, reduceIte, reduceCtorEq, f0, f5, f6, hbq]; exact rfl) rfl rfl ?_) | (refine arl_off rfl rfl ?_) | (refine aw_condT (by simp +decide only [aop, abuiltin, aeval, aintBin, bin_int, aload_bump, SS, reduceIte, reduceCtorEq, f0, f5, f6, hbq]; first | done | exact rfl) ?_) | (refine aw_condF (by simp +decide only [aop, abuiltin, aeval, aintBin, bin_int, aload_bump, SS, reduceIte, reduceCtorEq, f0, f5, f6, hbq]; first | done | exact rfl) ?_))
  refine arl_call rfl rfl rfl rfl rfl rfl ((rleft_ok ((hR.up hE1).up (by repeat (first | exact Keeps.refl _ _ | (refine Keeps.bumpR ?_ _)))) (by omega) (by omega)).wf (by repeat (first | assumption | (refine WF.bump ?_ _) | (refine WF.put ?_ (by simp only [n_bump, n_put, n_touch, n_kill] at *; omega) (by simp only [n_bump, n_put, n_touch, n_kill] at *; omega)))) |>.mono ?_)
  rintro r s2 ⟨hw2, hn2, hE2, rfl⟩
  refine ⟨by first | rfl | assumption, ?_⟩
  replace hE2 : Ext s1 s2 := Keeps.trans (by repeat (first | assumption | exact Keeps.refl _ _ | (refine Keeps.bumpR ?_ _) | (refine Keeps.put ?_ (by assumption) (by simp only [n_bump, n_put, n_touch, n_kill] at *; omega)))) hE2
  have hN2 := hE2.n
  repeat (first | (refine aw_seq ?_) | (refine aw_reg0 (by simp only [SZ, Nat.reduceAdd]; exact rfl) ?_) | (refine aw_reg (by decide +kernel) (by simp only [SZ, Nat.reduceAdd]; exact rfl) ?_) | (refine aw_regS (by decide +kernel) (by simp only [SZ, Nat.reduceAdd]; exact rfl) ?_) | (refine arl_nil ?_) | (refine aw_skip ?_) | (refine aw_block ?_) | (refine aw_exit ?_) | (refine aw_ret ?_) | (refine arl_cons rfl rfl (by simp +decide only [aop, abuiltin, aeval, aintBin, bin_int, aload_bump, SS, reduceIte, reduceCtorEq, f0, f5, f6, hbl, hwl, hbq2]; exact rfl) (by first | rfl | assumption) rfl ?_) | (refine arl_none rfl rfl (by simp +decide only [aop, abuiltin, aeval, aintBin, bin_int, aload_bump, SS, reduceIte, reduceCtorEq, f0, f5, f6, hbl, hwl, hbq2]; exact rfl) rfl rfl ?_) | (refine arl_off rfl rfl ?_) | (refine aw_condT (by simp +decide only [aop, abuiltin, aeval, aintBin, bin_int, aload_bump, SS, reduceIte, reduceCtorEq, f0, f5, f6, hbl, hwl, hbq2]; first | done | exact rfl) ?_) | (refine aw_condF (by simp +decide only [aop, abuiltin, aeval, aintBin, bin_int, aload_bump, SS, reduceIte, reduceCtorEq, f0, f5, f6, hbl, hwl, hbq2]; first | done | exact rfl) ?_))
  exact ⟨.inr rfl, _, rfl, rfl⟩
theorem op_of {st : St} {c : List AV} {x : OpT} (h : c.take 1 = [i64 x.1] ∧ (c.drop 1).take 1 = [i64 x.2.1] ∧ ((c.drop 1).drop 1).take 1 = [i64 x.2.2.1] ∧ ∃ v, ((c.drop 1).drop 1).drop 1 = [v] ∧ RdL st (fun _ => True) 1 (fun cs xs => ∃ v, cs = [v] ∧ RdL st (fun _ => True) 1 (fun cs n => cs = [.pl (.int .u8 n)]) v xs) v x.2.2.2) : opK.R st (fun _ => True) c x := by
  obtain ⟨h1, h2, h3, v, h4, h5⟩ := h
  refine ⟨v, ?_, rows_of h5⟩
  rw [← List.take_append_drop 1 c, h1, ← List.take_append_drop 1 (c.drop 1), h2, ← List.take_append_drop 1 ((c.drop 1).drop 1), h3, h4]
  rfl
theorem ops_of {st : St} {v : AV} {os : List OpT} (h : RdL st (fun _ => True) 4 (fun c x => c.take 1 = [i64 x.1] ∧ (c.drop 1).take 1 = [i64 x.2.1] ∧ ((c.drop 1).drop 1).take 1 = [i64 x.2.2.1] ∧ ∃ v, ((c.drop 1).drop 1).drop 1 = [v] ∧ RdL st (fun _ => True) 1 (fun cs xs => ∃ v, cs = [v] ∧ RdL st (fun _ => True) 1 (fun cs n => cs = [.pl (.int .u8 n)]) v xs) v x.2.2.2) v os) : RdE opK st (fun _ => True) v os :=
  RdL.keep h (Keeps.refl (fun _ => False) _) (fun _ _ h => h) (fun c x h => op_of h)
theorem ops_len (os : List OpT) : os.length ≤ (os.map fun x : Int × Int × Int × List (List Int) => 1 + (1 + (1 + ((x.2.2.2.map fun xs : List Int => (xs.map fun _ => 1).sum + 1).sum + 1))) + 1).sum := by
  rw [← sum_1 os]
  exact sum_ge _ _ (fun x => by omega) os
theorem CursorReads_small {st : St} (hw : WF st) {b v : AV} {xs : List Int} {os : List (Int × Int × Int × List (List Int))} (h0 : RdL st (fun _ => True) 1 (fun cs n => cs = [.pl (.int .u8 n)]) b xs) (g0 : ∀ x ∈ xs, (Lit.int .u8 x).wf = true)
    (h1 : RdL st (fun _ => True) 4 (fun c x => c.take 1 = [i64 x.1] ∧ (c.drop 1).take 1 = [i64 x.2.1] ∧ ((c.drop 1).drop 1).take 1 = [i64 x.2.2.1] ∧ ∃ v, ((c.drop 1).drop 1).drop 1 = [v] ∧ RdL st (fun _ => True) 1 (fun cs xs => ∃ v, cs = [v] ∧ RdL st (fun _ => True) 1 (fun cs n => cs = [.pl (.int .u8 n)]) v xs) v x.2.2.2) v os)
    (g1 : ∀ x ∈ os, (Lit.int .i64 x.1).wf = true ∧ (Lit.int .i64 x.2.1).wf = true ∧ (Lit.int .i64 x.2.2.1).wf = true ∧ ∀ y ∈ x.2.2.2, ∀ z ∈ y, (Lit.int .u8 z).wf = true)
    (hb : (xs.map fun _ => 1).sum + 1 + ((os.map fun x : Int × Int × Int × List (List Int) => 1 + (1 + (1 + ((x.2.2.2.map fun xs : List Int => (xs.map fun _ => 1).sum + 1).sum + 1))) + 1).sum + 1) ≤ 1048576) :
    ACalls Try.prog 6 [b, v] st (fun r s => r = .pl (.bool true)) := by
  have h2 := ops_len os
  rw [sum_1] at hb
  exact reads_ok hw (RdL.bytes h0) (ops_of h1) (by omega) (by omega) (fun x hx => wfu8 (g0 x hx)) (fun o ho => wfi64 (g1 o ho).2.1)
end Go.Proofs.Ytfffpjogpefomaa.Ra
