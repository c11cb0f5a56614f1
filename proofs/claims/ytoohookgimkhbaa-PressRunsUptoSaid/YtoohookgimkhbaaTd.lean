/- token.Run, token.Print. -/
import Derived.Test.YtoohookgimkhbaaTc
namespace Go.Proofs.Ytoohookgimkhbaa.Ra
open Go Go.RowKit
set_option linter.unusedVariables false
set_option linter.unusedSimpArgs false
set_option maxRecDepth 10000
/-- A function that answers bytes and an error. -/
def ByQ (st : St) (res : Int × List Int) (r : AV) (s : St) : Prop :=
  Ext st s ∧ ∃ x, r = .tup [x, i64 res.1] ∧ x.solid = true ∧ OwB s (fun g => st.n ≤ g) x res.2
theorem ByQ.bad {st s : St} {res : Int × List Int} {e : Int} (h : Ext st s) (hr : res = (e, [])) : ByQ st res (.tup [.pl (.slice none 0 0), i64 e]) s := ⟨h, _, by rw [hr], rfl, by rw [hr]; exact .inl ⟨rfl, rfl⟩⟩
def enc (t : Tok) : List Int := if cop t = true then [124 + t.2.2, t.2.1 / 256, t.2.1 % 256] else ((t.1.length : Int) - 1) :: t.1
def pr : List Tok → List Int → Int × List Int
  | [], out => (0, out)
  | t :: ts, out => if ill t = true then (50, []) else pr ts (out ++ enc t)
theorem lit3B (id : Nat) (a b c : Int) : abuildSlice Try.prog 22 id 3 [(0, u8 a), (1, u8 b), (2, u8 c)] = some (.sl id 0 3 1, ⟨[a, b, c].map u8, 5, true, id⟩) := lits id [a, b, c] (by simp)
theorem print_ok {st : St} (hw : WF st) {K : Nat → Prop} {v : AV} {ts : List Tok} (h : RdE tokK st K v ts) (hl : ts.length ≤ 1048576) :
    ACalls Try.prog 33 [v] st (ByQ st (pr ts [])) := by
  replace h := h.lt hw
  have hvs := h.solid
  have hln := RdE.len h TTK
  refine acalls_of Try.func33 rfl (by kernel_rfl) (by simp [hvs]) ?_
  repeat (first | (refine aw_seq ?_) | (refine aw_reg0 (by simp only [SZ, Nat.reduceAdd]; exact rfl) ?_) | (refine aw_reg (by decide +kernel) (by simp only [SZ, Nat.reduceAdd]; exact rfl) ?_) | (refine aw_regS (by decide +kernel) (by simp only [SZ, Nat.reduceAdd]; exact rfl) ?_) | (refine arl_nil ?_) | (refine aw_skip ?_) | (refine aw_block ?_) | (refine aw_exit ?_) | (refine aw_ret ?_) | (refine arl_cons rfl rfl (by simp +decide only [aop, abuiltin, aeval, aintBin, bin_int, aload_bump, SS, reduceIte, reduceCtorEq, lit0, hln]; exact rfl) (by first | rfl | with_reducible assumption) rfl ?_) | (refine arl_none rfl rfl (by simp +decide only [aop, abuiltin, aeval, aintBin, bin_int, aload_bump, SS, reduceIte, reduceCtorEq, lit0, hln]; exact rfl) rfl rfl ?_) | (refine arl_off rfl rfl ?_) | (refine aw_condT (by simp +decide only [aop, abuiltin, aeval, aintBin, bin_int, aload_bump, SS, reduceIte, reduceCtorEq, lit0, hln]; first | done | exact rfl) ?_) | (refine aw_condF (by simp +decide only [aop, abuiltin, aeval, aintBin, bin_int, aload_bump, SS, reduceIte, reduceCtorEq, lit0, hln]; first | done | exact rfl) ?_))
  refine aw_rounds_wf (fun m fr s => Ext st s ∧ ∃ (k : Nat) (out : List Int), k ≤ ts.length ∧ m = ts.length - k ∧ fr 8 = v ∧ fr 9 = i64 ts.length ∧ fr 10 = i64 k ∧ out.length ≤ 129 * k ∧ pr ts [] = pr (ts.drop k) out ∧ OwB s (fun g => st.n ≤ g) (fr 4) out) ?_ ts.length _ _ (by repeat (first | assumption | (refine WF.bump ?_ _) | (refine WF.put ?_ (by simp only [n_bump, n_put, n_touch, n_kill] at *; omega) (by simp only [n_bump, n_put, n_touch, n_kill] at *; omega)))) ?_
  · rintro m fr s hws ⟨hE, k, out, hk, rfl, f8, f9, f10, hol, hrun, hO⟩
    have hEn := hE.n
    have hos := hO.solid
    by_cases hlt : k < ts.length
    · have hd : decide ((k : Int) < (ts.length : Int)) = true := decide_eq_true (by omega)
      obtain ⟨q, c, hp1, hp2, hp3, hp4, hp5, hp6⟩ := tk_load (h.up hE) k hlt
      rw [List.drop_eq_getElem_cons hlt, pr] at hrun
      generalize htk : ts[k] = t at hp3 hp4 hrun
      repeat (first | (refine aw_seq ?_) | (refine aw_reg0 (by simp only [SZ, Nat.reduceAdd]; exact rfl) ?_) | (refine aw_reg (by decide +kernel) (by simp only [SZ, Nat.reduceAdd]; exact rfl) ?_) | (refine aw_regS (by decide +kernel) (by simp only [SZ, Nat.reduceAdd]; exact rfl) ?_) | (refine arl_nil ?_) | (refine aw_skip ?_) | (refine aw_block ?_) | (refine aw_exit ?_) | (refine aw_ret ?_) | (refine arl_cons rfl rfl (by simp +decide only [aop, abuiltin, aeval, aintBin, bin_int, aload_bump, SS, reduceIte, reduceCtorEq, f9, f10, hd]; exact rfl) (by first | rfl | with_reducible assumption) rfl ?_) | (refine arl_none rfl rfl (by simp +decide only [aop, abuiltin, aeval, aintBin, bin_int, aload_bump, SS, reduceIte, reduceCtorEq, f9, f10, hd]; exact rfl) rfl rfl ?_) | (refine arl_off rfl rfl ?_) | (refine aw_condT (by simp +decide only [aop, abuiltin, aeval, aintBin, bin_int, aload_bump, SS, reduceIte, reduceCtorEq, f9, f10, hd]; first | done | exact rfl) ?_) | (refine aw_condF (by simp +decide only [aop, abuiltin, aeval, aintBin, bin_int, aload_bump, SS, reduceIte, reduceCtorEq, f9, f10, hd]; first | done | exact rfl) ?_))
      refine arl_cons rfl rfl (by simp +decide only [aop, abuiltin, aeval, aintBin, bin_int, aload_bump, SS, reduceIte, reduceCtorEq, f8, f10, hp1]; exact rfl) (by first | rfl | with_reducible assumption) rfl ?_
      refine arl_cons rfl rfl (by simp +decide only [aop, abuiltin, aeval, aintBin, bin_int, aload_bump, SS, reduceIte, reduceCtorEq, hp3]; exact rfl) (by first | rfl | with_reducible assumption) rfl ?_
      refine arl_alloc rfl rfl rfl szTK zTK (fresh hws (by simp only [n_bump]; omega)) ?_
      intro s1 hn1 hwf1 hE1 hg1 hD1
      have hw1 : WF s1 := hwf1 (by repeat (first | assumption | (refine WF.bump ?_ _))) (by simp only [n_bump, n_put, n_touch, n_kill] at *; omega)
      refine arl_storeW (e := TK) (cs := [c, i64 t.2.1, i64 t.2.2]) rfl rfl rfl rfl rfl hg1 szTK rfl rfl rfl (by simp [hp6]; exact ⟨rfl, rfl⟩) rfl ?_
      intro s2 hn2 hwf2 hE2 hg2 hD2
      have hw2 : WF s2 := hwf2 hw1
      replace hE2 : Ext s s2 := Keeps.call ((show Ext s _ from (by repeat (first | exact Keeps.refl _ _ | (refine Keeps.bumpR ?_ _)))).trans hE1) hE2 hws (by simp only [n_bump]; intro g h; right; omega)
      have hN2 := hE2.n
      have q3 := (tkLd hg2).2.2.2
      repeat (first | (refine aw_seq ?_) | (refine aw_reg0 (by simp only [SZ, Nat.reduceAdd]; exact rfl) ?_) | (refine aw_reg (by decide +kernel) (by simp only [SZ, Nat.reduceAdd]; exact rfl) ?_) | (refine aw_regS (by decide +kernel) (by simp only [SZ, Nat.reduceAdd]; exact rfl) ?_) | (refine arl_nil ?_) | (refine aw_skip ?_) | (refine aw_block ?_) | (refine aw_exit ?_) | (refine aw_ret ?_) | (refine arl_cons rfl rfl (by simp +decide only [aop, abuiltin, aeval, aintBin, bin_int, aload_bump, SS, reduceIte, reduceCtorEq, q3]; exact rfl) (by first | rfl | with_reducible assumption) rfl ?_) | (refine arl_none rfl rfl (by simp +decide only [aop, abuiltin, aeval, aintBin, bin_int, aload_bump, SS, reduceIte, reduceCtorEq, q3]; exact rfl) rfl rfl ?_) | (refine arl_off rfl rfl ?_) | (refine aw_condT (by simp +decide only [aop, abuiltin, aeval, aintBin, bin_int, aload_bump, SS, reduceIte, reduceCtorEq, q3]; first | done | exact rfl) ?_) | (refine aw_condF (by simp +decide only [aop, abuiltin, aeval, aintBin, bin_int, aload_bump, SS, reduceIte, reduceCtorEq, q3]; first | done | exact rfl) ?_))
      refine arl_call rfl rfl rfl rfl rfl rfl ((ill_ok (by repeat (first | assumption | (refine WF.bump ?_ _))) t ((hp4.up hE2).up (by repeat (first | exact Keeps.refl _ _ | (refine Keeps.bumpR ?_ _))))).wf (by repeat (first | assumption | (refine WF.bump ?_ _) | (refine WF.put ?_ (by simp only [n_bump, n_put, n_touch, n_kill] at *; omega) (by simp only [n_bump, n_put, n_touch, n_kill] at *; omega)))) |>.mono ?_)
      rintro r s3 ⟨hw3, hn3, hE3, rfl⟩
      refine ⟨by first | rfl | with_reducible assumption, ?_⟩
      replace hE3 : Ext s2 s3 := Keeps.trans (by repeat (first | assumption | exact Keeps.refl _ _ | (refine Keeps.bumpR ?_ _) | (refine Keeps.put ?_ (by assumption) (by simp only [n_bump, n_put, n_touch, n_kill] at *; omega)))) hE3
      have hN3 := hE3.n
      have hS3 := hE2.trans hE3
      have hSt3 := hE.trans hS3
      by_cases hi : ill t = true
      · rw [if_pos hi] at hrun
        rw [hi]
        repeat (first | (refine aw_seq ?_) | (refine aw_reg0 (by simp only [SZ, Nat.reduceAdd]; exact rfl) ?_) | (refine aw_reg (by decide +kernel) (by simp only [SZ, Nat.reduceAdd]; exact rfl) ?_) | (refine aw_regS (by decide +kernel) (by simp only [SZ, Nat.reduceAdd]; exact rfl) ?_) | (refine arl_nil ?_) | (refine aw_skip ?_) | (refine aw_block ?_) | (refine aw_exit ?_) | (refine aw_ret ?_) | (refine arl_cons rfl rfl (by simp +decide only [aop, abuiltin, aeval, aintBin, bin_int, aload_bump, SS, reduceIte, reduceCtorEq]; exact rfl) (by first | rfl | with_reducible assumption) rfl ?_) | (refine arl_none rfl rfl (by simp +decide only [aop, abuiltin, aeval, aintBin, bin_int, aload_bump, SS, reduceIte, reduceCtorEq]; exact rfl) rfl rfl ?_) | (refine arl_off rfl rfl ?_) | (refine aw_condT (by simp +decide only [aop, abuiltin, aeval, aintBin, bin_int, aload_bump, SS, reduceIte, reduceCtorEq]; first | done | exact rfl) ?_) | (refine aw_condF (by simp +decide only [aop, abuiltin, aeval, aintBin, bin_int, aload_bump, SS, reduceIte, reduceCtorEq]; first | done | exact rfl) ?_))
        exact ⟨.inr rfl, _, rfl, ByQ.bad (hSt3.trans (by repeat (first | exact Keeps.refl _ _ | (refine Keeps.bumpR ?_ _)))) hrun⟩
      · rw [if_neg hi] at hrun
        have hif : ill t = false := by simpa using hi
        obtain ⟨r1, r2, r3, r4, r5, r6⟩ := ill_range hi
        rw [hif]
        have r3' := (tkLd (hE3.get _ _ hg2 (fun h => h))).2.2.2
        repeat (first | (refine aw_seq ?_) | (refine aw_reg0 (by simp only [SZ, Nat.reduceAdd]; exact rfl) ?_) | (refine aw_reg (by decide +kernel) (by simp only [SZ, Nat.reduceAdd]; exact rfl) ?_) | (refine aw_regS (by decide +kernel) (by simp only [SZ, Nat.reduceAdd]; exact rfl) ?_) | (refine arl_nil ?_) | (refine aw_skip ?_) | (refine aw_block ?_) | (refine aw_exit ?_) | (refine aw_ret ?_) | (refine arl_cons rfl rfl (by simp +decide only [aop, abuiltin, aeval, aintBin, bin_int, aload_bump, SS, reduceIte, reduceCtorEq, r3']; exact rfl) (by first | rfl | with_reducible assumption) rfl ?_) | (refine arl_none rfl rfl (by simp +decide only [aop, abuiltin, aeval, aintBin, bin_int, aload_bump, SS, reduceIte, reduceCtorEq, r3']; exact rfl) rfl rfl ?_) | (refine arl_off rfl rfl ?_) | (refine aw_condT (by simp +decide only [aop, abuiltin, aeval, aintBin, bin_int, aload_bump, SS, reduceIte, reduceCtorEq, r3']; first | done | exact rfl) ?_) | (refine aw_condF (by simp +decide only [aop, abuiltin, aeval, aintBin, bin_int, aload_bump, SS, reduceIte, reduceCtorEq, r3']; first | done | exact rfl) ?_))
        refine arl_call rfl rfl rfl rfl rfl rfl ((copies_ok (by repeat (first | assumption | (refine WF.bump ?_ _))) hp5 t).wf (by repeat (first | assumption | (refine WF.bump ?_ _) | (refine WF.put ?_ (by simp only [n_bump, n_put, n_touch, n_kill] at *; omega) (by simp only [n_bump, n_put, n_touch, n_kill] at *; omega)))) |>.mono ?_)
        rintro r s4 ⟨hw4, hn4, hE4, rfl⟩
        refine ⟨by first | rfl | with_reducible assumption, ?_⟩
        replace hE4 : Ext s3 s4 := Keeps.trans (by repeat (first | assumption | exact Keeps.refl _ _ | (refine Keeps.bumpR ?_ _) | (refine Keeps.put ?_ (by assumption) (by simp only [n_bump, n_put, n_touch, n_kill] at *; omega)))) hE4
        have hN4 := hE4.n
        have hS4 := hSt3.trans hE4
        have hN4 := hS4.n
        have hO4 := hO.up (hS3.trans hE4)
        obtain ⟨o0, o1, o2, o3⟩ := tkLd ((hE3.trans hE4).get _ _ hg2 (fun h => h))
        have hwk := wrap_succ (k := k) (by omega)
        by_cases hcp : cop t = true
        · have henc : enc t = [124 + t.2.2, t.2.1 / 256, t.2.1 % 256] := by unfold enc; rw [if_pos hcp]
          rw [hcp]
          have w1 : IntKind.i64.wrap (128 + t.2.2) = 128 + t.2.2 := wrap64_of (by omega) (by omega)
          have w2 : IntKind.i64.wrap (128 + t.2.2 - 4) = 124 + t.2.2 := by rw [wrap64_of (by omega) (by omega)]; omega
          have w3 : IntKind.u8.wrap (124 + t.2.2) = 124 + t.2.2 := by rw [IntKind.wrap_u8]; omega
          have w4 : t.2.1.fdiv (2 ^ (min (8 : Int).toNat IntKind.i64.bits)) = t.2.1 / 256 := by
            rw [show (2 : Int) ^ (min (8 : Int).toNat IntKind.i64.bits) = 256 from rfl]
            exact Int.fdiv_eq_ediv_of_nonneg _ (by decide)
          have w5 : IntKind.u8.wrap (t.2.1 / 256) = t.2.1 / 256 := by rw [IntKind.wrap_u8]; omega
          have w6 : IntKind.u8.wrap t.2.1 = t.2.1 % 256 := IntKind.wrap_u8 _
          repeat (first | (refine aw_seq ?_) | (refine aw_reg0 (by simp only [SZ, Nat.reduceAdd]; exact rfl) ?_) | (refine aw_reg (by decide +kernel) (by simp only [SZ, Nat.reduceAdd]; exact rfl) ?_) | (refine aw_regS (by decide +kernel) (by simp only [SZ, Nat.reduceAdd]; exact rfl) ?_) | (refine arl_nil ?_) | (refine aw_skip ?_) | (refine aw_block ?_) | (refine aw_exit ?_) | (refine aw_ret ?_) | (refine arl_cons rfl rfl (by simp +decide only [aop, abuiltin, aeval, aintBin, bin_int, aload_bump, SS, reduceIte, reduceCtorEq, faT1, faT2, o1, o2, abin, w1, w2, w4, conv_int Try.underlying3 Try.underlying5, w3, w5, w6, lit3B]; exact rfl) (by first | rfl | with_reducible assumption) rfl ?_) | (refine arl_none rfl rfl (by simp +decide only [aop, abuiltin, aeval, aintBin, bin_int, aload_bump, SS, reduceIte, reduceCtorEq, faT1, faT2, o1, o2, abin, w1, w2, w4, conv_int Try.underlying3 Try.underlying5, w3, w5, w6, lit3B]; exact rfl) rfl rfl ?_) | (refine arl_off rfl rfl ?_) | (refine aw_condT (by simp +decide only [aop, abuiltin, aeval, aintBin, bin_int, aload_bump, SS, reduceIte, reduceCtorEq, faT1, faT2, o1, o2, abin, w1, w2, w4, conv_int Try.underlying3 Try.underlying5, w3, w5, w6, lit3B]; first | done | exact rfl) ?_) | (refine aw_condF (by simp +decide only [aop, abuiltin, aeval, aintBin, bin_int, aload_bump, SS, reduceIte, reduceCtorEq, faT1, faT2, o1, o2, abin, w1, w2, w4, conv_int Try.underlying3 Try.underlying5, w3, w5, w6, lit3B]; first | done | exact rfl) ?_))
          refine arl_app (K := fun g => st.n ≤ g) (K' := fun _ => True) (xs := out) (ns := [124 + t.2.2, t.2.1 / 256, t.2.1 % 256]) rfl rfl rfl (hO4.up (by repeat (first | assumption | exact Keeps.refl _ _ | (refine Keeps.bumpR ?_ _) | (refine Keeps.put ?_ (by assumption) (by simp only [n_bump, n_put, n_touch, n_kill] at *; omega))))) (RdB.lit _ _ _ [_, _, _]) (by omega) (by simp; omega) ?_
          intro y s5 hO5 hn5 hK5
          have hys := hO5.solid
          have hE5 : Ext st s5 := hK5 _ st hw (by repeat (first | exact hS4 | (refine Keeps.bumpR ?_ _) | (refine Keeps.put ?_ hw (by omega)))) (by omega) (fun g h => .inr h)
          repeat (first | (refine aw_seq ?_) | (refine aw_reg0 (by simp only [SZ, Nat.reduceAdd]; exact rfl) ?_) | (refine aw_reg (by decide +kernel) (by simp only [SZ, Nat.reduceAdd]; exact rfl) ?_) | (refine aw_regS (by decide +kernel) (by simp only [SZ, Nat.reduceAdd]; exact rfl) ?_) | (refine arl_nil ?_) | (refine aw_skip ?_) | (refine aw_block ?_) | (refine aw_exit ?_) | (refine aw_ret ?_) | (refine arl_cons rfl rfl (by simp +decide only [aop, abuiltin, aeval, aintBin, bin_int, aload_bump, SS, reduceIte, reduceCtorEq, f10, hwk]; exact rfl) (by first | rfl | with_reducible assumption) rfl ?_) | (refine arl_none rfl rfl (by simp +decide only [aop, abuiltin, aeval, aintBin, bin_int, aload_bump, SS, reduceIte, reduceCtorEq, f10, hwk]; exact rfl) rfl rfl ?_) | (refine arl_off rfl rfl ?_) | (refine aw_condT (by simp +decide only [aop, abuiltin, aeval, aintBin, bin_int, aload_bump, SS, reduceIte, reduceCtorEq, f10, hwk]; first | done | exact rfl) ?_) | (refine aw_condF (by simp +decide only [aop, abuiltin, aeval, aintBin, bin_int, aload_bump, SS, reduceIte, reduceCtorEq, f10, hwk]; first | done | exact rfl) ?_))
          exact ⟨ts.length - (k + 1), by omega, hE5.trans (by repeat (first | exact Keeps.refl _ _ | (refine Keeps.bumpR ?_ _))), k + 1, out ++ enc t, by omega, rfl, f8, f9, rfl, by rw [henc]; simp; omega, hrun, by rw [henc]; exact hO5.up (by repeat (first | exact Keeps.refl _ _ | (refine Keeps.bumpR ?_ _)))⟩
        · have hcf : cop t = false := by simpa using hcp
          have henc : enc t = ((t.1.length : Int) - 1) :: t.1 := by unfold enc; rw [if_neg hcp]
          have hl1 : 1 ≤ t.1.length := by
            unfold ill at hi
            rw [if_neg hcp] at hi
            simp only [decide_eq_true_eq] at hi
            omega
          rw [hcf]
          have hlc := hp4.len
          have w1 : IntKind.i64.wrap ((t.1.length : Int) - 1) = (t.1.length : Int) - 1 := wrap64_of (by omega) (by omega)
          have w2 : IntKind.u8.wrap ((t.1.length : Int) - 1) = (t.1.length : Int) - 1 := by rw [IntKind.wrap_u8]; omega
          repeat (first | (refine aw_seq ?_) | (refine aw_reg0 (by simp only [SZ, Nat.reduceAdd]; exact rfl) ?_) | (refine aw_reg (by decide +kernel) (by simp only [SZ, Nat.reduceAdd]; exact rfl) ?_) | (refine aw_regS (by decide +kernel) (by simp only [SZ, Nat.reduceAdd]; exact rfl) ?_) | (refine arl_nil ?_) | (refine aw_skip ?_) | (refine aw_block ?_) | (refine aw_exit ?_) | (refine aw_ret ?_) | (refine arl_cons rfl rfl (by simp +decide only [aop, abuiltin, aeval, aintBin, bin_int, aload_bump, SS, reduceIte, reduceCtorEq, faT0, o0, hlc, w1, conv_int Try.underlying3 Try.underlying5, w2, lit1]; exact rfl) (by first | rfl | with_reducible assumption) rfl ?_) | (refine arl_none rfl rfl (by simp +decide only [aop, abuiltin, aeval, aintBin, bin_int, aload_bump, SS, reduceIte, reduceCtorEq, faT0, o0, hlc, w1, conv_int Try.underlying3 Try.underlying5, w2, lit1]; exact rfl) rfl rfl ?_) | (refine arl_off rfl rfl ?_) | (refine aw_condT (by simp +decide only [aop, abuiltin, aeval, aintBin, bin_int, aload_bump, SS, reduceIte, reduceCtorEq, faT0, o0, hlc, w1, conv_int Try.underlying3 Try.underlying5, w2, lit1]; first | done | exact rfl) ?_) | (refine aw_condF (by simp +decide only [aop, abuiltin, aeval, aintBin, bin_int, aload_bump, SS, reduceIte, reduceCtorEq, faT0, o0, hlc, w1, conv_int Try.underlying3 Try.underlying5, w2, lit1]; first | done | exact rfl) ?_))
          have hO4' : OwB s4 (fun g => (st.n ≤ g ∧ g < s.n) ∨ s4.n ≤ g) (fr 4) out := ((hO.lt hws).mono (fun g h => .inl h)).up (hS3.trans hE4)
          refine arl_app (K := fun g => (st.n ≤ g ∧ g < s.n) ∨ s4.n ≤ g) (K' := fun _ => True) (xs := out) (ns := [(t.1.length : Int) - 1]) rfl rfl rfl (hO4'.up (by repeat (first | assumption | exact Keeps.refl _ _ | (refine Keeps.bumpR ?_ _) | (refine Keeps.put ?_ (by assumption) (by simp only [n_bump, n_put, n_touch, n_kill] at *; omega))))) (RdB.lit _ _ _ [_]) (.inr (by omega)) (by simp; omega) ?_
          intro y s5 hO5 hn5 hK5
          have hys := hO5.solid
          have hE5 : Ext st s5 := hK5 _ st hw (by repeat (first | exact hS4 | (refine Keeps.bumpR ?_ _) | (refine Keeps.put ?_ hw (by omega)))) (by omega) (fun g h => .inr (by omega))
          have hK45 : Keeps (fun g => st.n ≤ g ∧ g < s.n) s4 s5 := hK5 _ s4 hw4 (by repeat (first | exact Keeps.refl _ _ | (refine Keeps.bumpR ?_ _) | (refine Keeps.put ?_ hw4 (by omega)))) (by omega) (fun g h => h)
          have hN5 := hK45.n
          obtain ⟨u0, u1, u2, u3⟩ := tkLd (hK45.get _ _ ((hE3.trans hE4).get _ _ hg2 (fun h => h)) (fun h => by have := h.2; simp only [n_bump] at this; omega))
          repeat (first | (refine aw_seq ?_) | (refine aw_reg0 (by simp only [SZ, Nat.reduceAdd]; exact rfl) ?_) | (refine aw_reg (by decide +kernel) (by simp only [SZ, Nat.reduceAdd]; exact rfl) ?_) | (refine aw_regS (by decide +kernel) (by simp only [SZ, Nat.reduceAdd]; exact rfl) ?_) | (refine arl_nil ?_) | (refine aw_skip ?_) | (refine aw_block ?_) | (refine aw_exit ?_) | (refine aw_ret ?_) | (refine arl_cons rfl rfl (by simp +decide only [aop, abuiltin, aeval, aintBin, bin_int, aload_bump, SS, reduceIte, reduceCtorEq, faT0, u0]; exact rfl) (by first | rfl | with_reducible assumption) rfl ?_) | (refine arl_none rfl rfl (by simp +decide only [aop, abuiltin, aeval, aintBin, bin_int, aload_bump, SS, reduceIte, reduceCtorEq, faT0, u0]; exact rfl) rfl rfl ?_) | (refine arl_off rfl rfl ?_) | (refine aw_condT (by simp +decide only [aop, abuiltin, aeval, aintBin, bin_int, aload_bump, SS, reduceIte, reduceCtorEq, faT0, u0]; first | done | exact rfl) ?_) | (refine aw_condF (by simp +decide only [aop, abuiltin, aeval, aintBin, bin_int, aload_bump, SS, reduceIte, reduceCtorEq, faT0, u0]; first | done | exact rfl) ?_))
          refine arl_app (K := fun g => (st.n ≤ g ∧ g < s.n) ∨ s4.n ≤ g) (K' := fun g => True ∧ g < st.n) (xs := out ++ [(t.1.length : Int) - 1]) (ns := t.1) rfl rfl rfl (hO5.up (by repeat (first | exact Keeps.refl _ _ | (refine Keeps.bumpR ?_ _)))) ((((hp4.mono (K' := fun g => True ∧ g < st.n) (fun g h => ⟨trivial, h.2⟩)).up (hS3.trans hE4)).keep hK45 (fun g h h' => by have := h.2; omega)).up (by repeat (first | exact Keeps.refl _ _ | (refine Keeps.bumpR ?_ _)))) (.inr (by first | omega | (simp only [n_bump, n_put]; omega) | (simp only [n_bump, n_put] at *; omega))) (by simp; omega) ?_
          intro y6 s6 hO6 hn6 hK6
          have hys6 := hO6.solid
          have hE6 : Ext st s6 := hK6 _ st hw (hE5.trans (by repeat (first | exact Keeps.refl _ _ | (refine Keeps.bumpR ?_ _)))) (by first | omega | (simp only [n_bump, n_put]; omega) | (simp only [n_bump, n_put] at *; omega)) (fun g h => .inr (by omega))
          repeat (first | (refine aw_seq ?_) | (refine aw_reg0 (by simp only [SZ, Nat.reduceAdd]; exact rfl) ?_) | (refine aw_reg (by decide +kernel) (by simp only [SZ, Nat.reduceAdd]; exact rfl) ?_) | (refine aw_regS (by decide +kernel) (by simp only [SZ, Nat.reduceAdd]; exact rfl) ?_) | (refine arl_nil ?_) | (refine aw_skip ?_) | (refine aw_block ?_) | (refine aw_exit ?_) | (refine aw_ret ?_) | (refine arl_cons rfl rfl (by simp +decide only [aop, abuiltin, aeval, aintBin, bin_int, aload_bump, SS, reduceIte, reduceCtorEq, f10, hwk]; exact rfl) (by first | rfl | with_reducible assumption) rfl ?_) | (refine arl_none rfl rfl (by simp +decide only [aop, abuiltin, aeval, aintBin, bin_int, aload_bump, SS, reduceIte, reduceCtorEq, f10, hwk]; exact rfl) rfl rfl ?_) | (refine arl_off rfl rfl ?_) | (refine aw_condT (by simp +decide only [aop, abuiltin, aeval, aintBin, bin_int, aload_bump, SS, reduceIte, reduceCtorEq, f10, hwk]; first | done | exact rfl) ?_) | (refine aw_condF (by simp +decide only [aop, abuiltin, aeval, aintBin, bin_int, aload_bump, SS, reduceIte, reduceCtorEq, f10, hwk]; first | done | exact rfl) ?_))
          exact ⟨ts.length - (k + 1), by omega, hE6.trans (by repeat (first | exact Keeps.refl _ _ | (refine Keeps.bumpR ?_ _))), k + 1, out ++ enc t, by omega, rfl, f8, f9, rfl, by rw [henc]; simp; omega, hrun, by rw [henc, show out ++ ((t.1.length : Int) - 1) :: t.1 = out ++ [(t.1.length : Int) - 1] ++ t.1 by simp]; exact (hO6.mono (fun g h => by omega)).up (by repeat (first | exact Keeps.refl _ _ | (refine Keeps.bumpR ?_ _)))⟩
    · have hd : decide ((k : Int) < (ts.length : Int)) = false := decide_eq_false (by omega)
      rw [List.drop_of_length_le (by omega), pr] at hrun
      repeat (first | (refine aw_seq ?_) | (refine aw_reg0 (by simp only [SZ, Nat.reduceAdd]; exact rfl) ?_) | (refine aw_reg (by decide +kernel) (by simp only [SZ, Nat.reduceAdd]; exact rfl) ?_) | (refine aw_regS (by decide +kernel) (by simp only [SZ, Nat.reduceAdd]; exact rfl) ?_) | (refine arl_nil ?_) | (refine aw_skip ?_) | (refine aw_block ?_) | (refine aw_exit ?_) | (refine aw_ret ?_) | (refine arl_cons rfl rfl (by simp +decide only [aop, abuiltin, aeval, aintBin, bin_int, aload_bump, SS, reduceIte, reduceCtorEq, f9, f10, hd]; exact rfl) (by first | rfl | with_reducible assumption) rfl ?_) | (refine arl_none rfl rfl (by simp +decide only [aop, abuiltin, aeval, aintBin, bin_int, aload_bump, SS, reduceIte, reduceCtorEq, f9, f10, hd]; exact rfl) rfl rfl ?_) | (refine arl_off rfl rfl ?_) | (refine aw_condT (by simp +decide only [aop, abuiltin, aeval, aintBin, bin_int, aload_bump, SS, reduceIte, reduceCtorEq, f9, f10, hd]; first | done | exact rfl) ?_) | (refine aw_condF (by simp +decide only [aop, abuiltin, aeval, aintBin, bin_int, aload_bump, SS, reduceIte, reduceCtorEq, f9, f10, hd]; first | done | exact rfl) ?_))
      refine ⟨.inr rfl, _, rfl, hE.trans (by repeat (first | exact Keeps.refl _ _ | (refine Keeps.bumpR ?_ _))), fr 4, by rw [hrun]; rfl, hos, ?_⟩
      rw [hrun]
      exact hO.up (by repeat (first | exact Keeps.refl _ _ | (refine Keeps.bumpR ?_ _)))
  · exact ⟨(by repeat (first | assumption | exact Keeps.refl _ _ | (refine Keeps.bumpR ?_ _) | (refine Keeps.put ?_ (by assumption) (by simp only [n_bump, n_put, n_touch, n_kill] at *; omega)))), 0, [], by omega, rfl, rfl, rfl, rfl, by simp, rfl, .inr ⟨_, _, rfl, get_put _ _, (by simp only [n_bump, n_put, n_touch, n_kill] at *; omega)⟩⟩
end Go.Proofs.Ytoohookgimkhbaa.Ra
