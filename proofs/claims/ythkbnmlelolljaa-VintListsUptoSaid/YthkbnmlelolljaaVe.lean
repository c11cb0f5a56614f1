/- GetAll, both; leatlaw02: same, alive. -/
import Derived.Test.YthkbnmlelolljaaVd
namespace Go.Proofs.Ythkbnmlelolljaa.Ra
open Go Go.RowKit Vn
set_option linter.unusedVariables false
set_option linter.unusedSimpArgs false
set_option maxRecDepth 10000
/-- What 'GetAll' answers. -/
def GaQ (st : St) (b : List Int) (r : AV) (s : St) : Prop :=
  Ext st s ∧ ∃ x, r = .tup [x, i64 (ga b b.length [] 0).2.1, i64 (ga b b.length [] 0).2.2] ∧ x.solid = true ∧ OwX numK s (fun g => st.n ≤ g) (fun _ _ => False) 2 x (ga b b.length [] 0).1
theorem num_app {st : St} {id : Nat} (n : Int) : RdL (st.put id ⟨[i64 n], 2, true, id⟩) (fun _ => True) numK.s (numK.R (st.put id ⟨[i64 n], 2, true, id⟩) (fun _ => False)) (.sl id 0 1 1) [n] :=
  RdL.one (R := fun cs (x : Int) => cs = [i64 x]) (cs := [i64 n]) rfl rfl st (K := fun _ => True) trivial 2
set_option maxHeartbeats 1000000 in
theorem vGetAll_ok {st : St} (hw : WF st) {K : Nat → Prop} {v : AV} {b : List Int} (h : RdB st K v b) (hl : b.length ≤ 1048576) (hby : byts b) :
    ACalls Try.prog 32 [v] st (GaQ st b) := by
  replace h := h.lt hw
  have hvs := h.solid
  have hln := h.len
  refine acalls_of Try.func32 rfl (by kernel_rfl) (by simp [hvs]) ?_
  repeat (first | (refine aw_seq ?_) | (refine aw_reg0 (by simp only [SZ, Nat.reduceAdd]; exact rfl) ?_) | (refine aw_reg (by decide +kernel) (by simp only [SZ, Nat.reduceAdd]; exact rfl) ?_) | (refine aw_regS (by decide +kernel) (by simp only [SZ, Nat.reduceAdd]; exact rfl) ?_) | (refine arl_nil ?_) | (refine aw_skip ?_) | (refine aw_block ?_) | (refine aw_exit ?_) | (refine aw_ret ?_) | (refine arl_cons rfl rfl (by simp +decide only [aop, abuiltin, aeval, aintBin, bin_int, aload_bump, SS, reduceIte, reduceCtorEq]; exact rfl) (by first | rfl | assumption) rfl ?_) | (refine arl_none rfl rfl (by simp +decide only [aop, abuiltin, aeval, aintBin, bin_int, aload_bump, SS, reduceIte, reduceCtorEq]; exact rfl) rfl rfl ?_) | (refine arl_off rfl rfl ?_) | (refine aw_condT (by simp +decide only [aop, abuiltin, aeval, aintBin, bin_int, aload_bump, SS, reduceIte, reduceCtorEq]; first | done | exact rfl) ?_) | (refine aw_condF (by simp +decide only [aop, abuiltin, aeval, aintBin, bin_int, aload_bump, SS, reduceIte, reduceCtorEq]; first | done | exact rfl) ?_))
  refine aw_rounds_wf (fun m fr s => Ext st s ∧ ∃ (n a : Nat) (acc : List Int), b.length ≤ n + a ∧ a ≤ b.length ∧ acc.length + n ≤ 1048576 ∧ m = b.length - a ∧ ga b b.length [] 0 = ga b n acc a ∧ fr 0 = v ∧ fr 6 = i64 a ∧ OwX numK s (fun g => st.n ≤ g) (fun _ _ => False) 2 (fr 5) acc) ?_ b.length _ _ (by repeat (first | assumption | (refine WF.bump ?_ _))) ?_
  · rintro m fr sx hws ⟨hE, n, a, acc, hna, ha, hac, rfl, hga, f0, f6, hO⟩
    have hEn := hE.n
    have hos := hO.solid
    by_cases hlt : a < b.length
    · have hd : decide ((a : Int) < (b.length : Int)) = true := decide_eq_true (by omega)
      obtain ⟨n, rfl⟩ : ∃ q, n = q + 1 := ⟨n - 1, by omega⟩
      rw [ga, if_pos (by omega)] at hga
      repeat (first | (refine aw_seq ?_) | (refine aw_reg0 (by simp only [SZ, Nat.reduceAdd]; exact rfl) ?_) | (refine aw_reg (by decide +kernel) (by simp only [SZ, Nat.reduceAdd]; exact rfl) ?_) | (refine aw_regS (by decide +kernel) (by simp only [SZ, Nat.reduceAdd]; exact rfl) ?_) | (refine arl_nil ?_) | (refine aw_skip ?_) | (refine aw_block ?_) | (refine aw_exit ?_) | (refine aw_ret ?_) | (refine arl_cons rfl rfl (by simp +decide only [aop, abuiltin, aeval, aintBin, bin_int, aload_bump, SS, reduceIte, reduceCtorEq, f0, f6, hln, hd]; exact rfl) (by first | rfl | assumption) rfl ?_) | (refine arl_none rfl rfl (by simp +decide only [aop, abuiltin, aeval, aintBin, bin_int, aload_bump, SS, reduceIte, reduceCtorEq, f0, f6, hln, hd]; exact rfl) rfl rfl ?_) | (refine arl_off rfl rfl ?_) | (refine aw_condT (by simp +decide only [aop, abuiltin, aeval, aintBin, bin_int, aload_bump, SS, reduceIte, reduceCtorEq, f0, f6, hln, hd]; first | done | exact rfl) ?_) | (refine aw_condF (by simp +decide only [aop, abuiltin, aeval, aintBin, bin_int, aload_bump, SS, reduceIte, reduceCtorEq, f0, f6, hln, hd]; first | done | exact rfl) ?_))
      refine arl_call rfl rfl rfl rfl rfl rfl ((vGet_ok (by repeat (first | assumption | (refine WF.bump ?_ _))) a ((h.up hE).up (by repeat (first | exact Keeps.refl _ _ | (refine Keeps.bumpR ?_ _)))) (by omega) hby).wf (by repeat (first | assumption | (refine WF.bump ?_ _) | (refine WF.put ?_ (by simp only [n_bump, n_put, n_touch, n_kill] at *; omega) (by simp only [n_bump, n_put, n_touch, n_kill] at *; omega)))) |>.mono ?_)
      rintro r s1 ⟨hw1, hn1, hE1, rfl⟩
      refine ⟨by first | rfl | assumption, ?_⟩
      replace hE1 : Ext sx s1 := Keeps.trans (by repeat (first | assumption | exact Keeps.refl _ _ | (refine Keeps.bumpR ?_ _) | (refine Keeps.put ?_ (by assumption) (by simp only [n_bump, n_put, n_touch, n_kill] at *; omega)))) hE1
      have hN1 := hE1.n
      have hS1 := hE.trans hE1
      by_cases he : (getS 10 1 b a).2.2 = 0
      · rw [if_pos he] at hga
        obtain ⟨m, e, h3, h4⟩ := getS_next b a ha he
        have q1 := neF he
        have hO1 := hO.up hE1
        repeat (first | (refine aw_seq ?_) | (refine aw_reg0 (by simp only [SZ, Nat.reduceAdd]; exact rfl) ?_) | (refine aw_reg (by decide +kernel) (by simp only [SZ, Nat.reduceAdd]; exact rfl) ?_) | (refine aw_regS (by decide +kernel) (by simp only [SZ, Nat.reduceAdd]; exact rfl) ?_) | (refine arl_nil ?_) | (refine aw_skip ?_) | (refine aw_block ?_) | (refine aw_exit ?_) | (refine aw_ret ?_) | (refine arl_cons rfl rfl (by simp +decide only [aop, abuiltin, aeval, aintBin, bin_int, aload_bump, SS, reduceIte, reduceCtorEq, getV, q1, litI1]; exact rfl) (by first | rfl | assumption) rfl ?_) | (refine arl_none rfl rfl (by simp +decide only [aop, abuiltin, aeval, aintBin, bin_int, aload_bump, SS, reduceIte, reduceCtorEq, getV, q1, litI1]; exact rfl) rfl rfl ?_) | (refine arl_off rfl rfl ?_) | (refine aw_condT (by simp +decide only [aop, abuiltin, aeval, aintBin, bin_int, aload_bump, SS, reduceIte, reduceCtorEq, getV, q1, litI1]; first | done | exact rfl) ?_) | (refine aw_condF (by simp +decide only [aop, abuiltin, aeval, aintBin, bin_int, aload_bump, SS, reduceIte, reduceCtorEq, getV, q1, litI1]; first | done | exact rfl) ?_))
        refine arl_appX (k := numK) (K0 := fun g => st.n ≤ g) (L0 := fun _ _ => False) (Kx := fun _ => True) (Kn := fun _ => False) (K := fun g => st.n ≤ g) (L := fun _ _ => False) (xs := acc) (ns := [zag (getS 10 1 b a).1]) TI rfl rfl rfl (hO1.up (by repeat (first | assumption | exact Keeps.refl _ _ | (refine Keeps.bumpR ?_ _) | (refine Keeps.put ?_ (by assumption) (by simp only [n_bump, n_put, n_touch, n_kill] at *; omega))))) (num_app _) (fun g _ h => h) ⟨fun h => h, fun _ => (by first | omega | (simp only [n_bump, n_put]; omega) | (simp only [n_bump, n_put] at *; omega))⟩ (fun _ h => h) (fun _ _ _ h => h) (fun _ _ _ _ h => h) ?hfr (by simp; omega) (by simp; omega) ?_
        case hfr =>
          rw [get_put_ne _ (by omega)]
          exact fresh hw1 (by first | omega | (simp only [n_bump, n_put]; omega) | (simp only [n_bump, n_put] at *; omega))
        intro y s2 hO2 hn2 hK2 hwf2
        have hys := hO2.solid
        have hS2 : Ext st s2 := Keeps.call hS1 (Keeps.trans (Keeps.mono (G := fun _ => False) (show Ext s1 _ from (by repeat (first | assumption | exact Keeps.refl _ _ | (refine Keeps.bumpR ?_ _) | (refine Keeps.put ?_ (by assumption) (by simp only [n_bump, n_put, n_touch, n_kill] at *; omega))))) (fun _ h => h.elim)) hK2) hw (fun g h => .inr h)
        repeat (first | (refine aw_seq ?_) | (refine aw_reg0 (by simp only [SZ, Nat.reduceAdd]; exact rfl) ?_) | (refine aw_reg (by decide +kernel) (by simp only [SZ, Nat.reduceAdd]; exact rfl) ?_) | (refine aw_regS (by decide +kernel) (by simp only [SZ, Nat.reduceAdd]; exact rfl) ?_) | (refine arl_nil ?_) | (refine aw_skip ?_) | (refine aw_block ?_) | (refine aw_exit ?_) | (refine aw_ret ?_) | (refine arl_cons rfl rfl (by simp +decide only [aop, abuiltin, aeval, aintBin, bin_int, aload_bump, SS, reduceIte, reduceCtorEq]; exact rfl) (by first | rfl | assumption) rfl ?_) | (refine arl_none rfl rfl (by simp +decide only [aop, abuiltin, aeval, aintBin, bin_int, aload_bump, SS, reduceIte, reduceCtorEq]; exact rfl) rfl rfl ?_) | (refine arl_off rfl rfl ?_) | (refine aw_condT (by simp +decide only [aop, abuiltin, aeval, aintBin, bin_int, aload_bump, SS, reduceIte, reduceCtorEq]; first | done | exact rfl) ?_) | (refine aw_condF (by simp +decide only [aop, abuiltin, aeval, aintBin, bin_int, aload_bump, SS, reduceIte, reduceCtorEq]; first | done | exact rfl) ?_))
        refine ⟨b.length - m, by omega, hS2.trans (by repeat (first | exact Keeps.refl _ _ | (refine Keeps.bumpR ?_ _))), n, m, _, by omega, h4, by simp; omega, rfl, by rw [← e]; exact hga, f0, ?_, hO2.up (by repeat (first | exact Keeps.refl _ _ | (refine Keeps.bumpR ?_ _)))⟩
        show AV.pl _ = _
        rw [e]
      · rw [if_neg he] at hga
        have q1 := neT he
        repeat (first | (refine aw_seq ?_) | (refine aw_reg0 (by simp only [SZ, Nat.reduceAdd]; exact rfl) ?_) | (refine aw_reg (by decide +kernel) (by simp only [SZ, Nat.reduceAdd]; exact rfl) ?_) | (refine aw_regS (by decide +kernel) (by simp only [SZ, Nat.reduceAdd]; exact rfl) ?_) | (refine arl_nil ?_) | (refine aw_skip ?_) | (refine aw_block ?_) | (refine aw_exit ?_) | (refine aw_ret ?_) | (refine arl_cons rfl rfl (by simp +decide only [aop, abuiltin, aeval, aintBin, bin_int, aload_bump, SS, reduceIte, reduceCtorEq, getV, q1, f6]; exact rfl) (by first | rfl | assumption) rfl ?_) | (refine arl_none rfl rfl (by simp +decide only [aop, abuiltin, aeval, aintBin, bin_int, aload_bump, SS, reduceIte, reduceCtorEq, getV, q1, f6]; exact rfl) rfl rfl ?_) | (refine arl_off rfl rfl ?_) | (refine aw_condT (by simp +decide only [aop, abuiltin, aeval, aintBin, bin_int, aload_bump, SS, reduceIte, reduceCtorEq, getV, q1, f6]; first | done | exact rfl) ?_) | (refine aw_condF (by simp +decide only [aop, abuiltin, aeval, aintBin, bin_int, aload_bump, SS, reduceIte, reduceCtorEq, getV, q1, f6]; first | done | exact rfl) ?_))
        refine ⟨.inr rfl, _, rfl, hS1.trans (by repeat (first | exact Keeps.refl _ _ | (refine Keeps.bumpR ?_ _))), _, by rw [hga]; rfl, rfl, ?_⟩
        rw [hga]
        exact OwX.nil
    · have hd : decide ((a : Int) < (b.length : Int)) = false := decide_eq_false (by omega)
      have hga2 : ga b n acc a = (acc, 0, 0) := by
        cases n with
        | zero => rfl
        | succ n => rw [ga, if_neg (by omega)]
      rw [hga2] at hga
      repeat (first | (refine aw_seq ?_) | (refine aw_reg0 (by simp only [SZ, Nat.reduceAdd]; exact rfl) ?_) | (refine aw_reg (by decide +kernel) (by simp only [SZ, Nat.reduceAdd]; exact rfl) ?_) | (refine aw_regS (by decide +kernel) (by simp only [SZ, Nat.reduceAdd]; exact rfl) ?_) | (refine arl_nil ?_) | (refine aw_skip ?_) | (refine aw_block ?_) | (refine aw_exit ?_) | (refine aw_ret ?_) | (refine arl_cons rfl rfl (by simp +decide only [aop, abuiltin, aeval, aintBin, bin_int, aload_bump, SS, reduceIte, reduceCtorEq, f0, f6, hln, hd]; exact rfl) (by first | rfl | assumption) rfl ?_) | (refine arl_none rfl rfl (by simp +decide only [aop, abuiltin, aeval, aintBin, bin_int, aload_bump, SS, reduceIte, reduceCtorEq, f0, f6, hln, hd]; exact rfl) rfl rfl ?_) | (refine arl_off rfl rfl ?_) | (refine aw_condT (by simp +decide only [aop, abuiltin, aeval, aintBin, bin_int, aload_bump, SS, reduceIte, reduceCtorEq, f0, f6, hln, hd]; first | done | exact rfl) ?_) | (refine aw_condF (by simp +decide only [aop, abuiltin, aeval, aintBin, bin_int, aload_bump, SS, reduceIte, reduceCtorEq, f0, f6, hln, hd]; first | done | exact rfl) ?_))
      refine ⟨.inr rfl, _, rfl, hE.trans (by repeat (first | exact Keeps.refl _ _ | (refine Keeps.bumpR ?_ _))), _, by rw [hga]; rfl, hos, ?_⟩
      rw [hga]
      exact hO.up (by repeat (first | exact Keeps.refl _ _ | (refine Keeps.bumpR ?_ _)))
  · exact ⟨(by repeat (first | exact Keeps.refl _ _ | (refine Keeps.bumpR ?_ _))), b.length, 0, [], by omega, by omega, by simp; omega, rfl, rfl, rfl, rfl, OwX.nil⟩
set_option maxHeartbeats 1000000 in
theorem rGetAll_ok {st : St} (hw : WF st) {K : Nat → Prop} {v : AV} {b : List Int} (h : RdB st K v b) (hl : b.length ≤ 1048576) (hby : byts b) :
    ACalls Try.prog 31 [v] st (GaQ st b) := by
  replace h := h.lt hw
  have hvs := h.solid
  have hln := h.len
  refine acalls_of Try.func31 rfl (by kernel_rfl) (by simp [hvs]) ?_
  repeat (first | (refine aw_seq ?_) | (refine aw_reg0 (by simp only [SZ, Nat.reduceAdd]; exact rfl) ?_) | (refine aw_reg (by decide +kernel) (by simp only [SZ, Nat.reduceAdd]; exact rfl) ?_) | (refine aw_regS (by decide +kernel) (by simp only [SZ, Nat.reduceAdd]; exact rfl) ?_) | (refine arl_nil ?_) | (refine aw_skip ?_) | (refine aw_block ?_) | (refine aw_exit ?_) | (refine aw_ret ?_) | (refine arl_cons rfl rfl (by simp +decide only [aop, abuiltin, aeval, aintBin, bin_int, aload_bump, SS, reduceIte, reduceCtorEq, litI0]; exact rfl) (by first | rfl | assumption) rfl ?_) | (refine arl_none rfl rfl (by simp +decide only [aop, abuiltin, aeval, aintBin, bin_int, aload_bump, SS, reduceIte, reduceCtorEq, litI0]; exact rfl) rfl rfl ?_) | (refine arl_off rfl rfl ?_) | (refine aw_condT (by simp +decide only [aop, abuiltin, aeval, aintBin, bin_int, aload_bump, SS, reduceIte, reduceCtorEq, litI0]; first | done | exact rfl) ?_) | (refine aw_condF (by simp +decide only [aop, abuiltin, aeval, aintBin, bin_int, aload_bump, SS, reduceIte, reduceCtorEq, litI0]; first | done | exact rfl) ?_))
  refine aw_rounds_wf (fun m fr s => Ext st s ∧ ∃ (n a : Nat) (acc : List Int), b.length ≤ n + a ∧ a ≤ b.length ∧ acc.length + n ≤ 1048576 ∧ m = b.length - a ∧ ga b b.length [] 0 = ga b n acc a ∧ fr 0 = v ∧ fr 6 = i64 a ∧ OwX numK s (fun g => st.n ≤ g) (fun _ _ => False) 2 (fr 5) acc) ?_ b.length _ _ (by repeat (first | assumption | (refine WF.bump ?_ _) | (refine WF.put ?_ (by simp only [n_bump, n_put, n_touch, n_kill] at *; omega) (by simp only [n_bump, n_put, n_touch, n_kill] at *; omega)))) ?_
  · rintro m fr sx hws ⟨hE, n, a, acc, hna, ha, hac, rfl, hga, f0, f6, hO⟩
    have hEn := hE.n
    have hos := hO.solid
    by_cases hlt : a < b.length
    · have hd : decide ((a : Int) < (b.length : Int)) = true := decide_eq_true (by omega)
      obtain ⟨n, rfl⟩ : ∃ q, n = q + 1 := ⟨n - 1, by omega⟩
      rw [ga, if_pos (by omega)] at hga
      repeat (first | (refine aw_seq ?_) | (refine aw_reg0 (by simp only [SZ, Nat.reduceAdd]; exact rfl) ?_) | (refine aw_reg (by decide +kernel) (by simp only [SZ, Nat.reduceAdd]; exact rfl) ?_) | (refine aw_regS (by decide +kernel) (by simp only [SZ, Nat.reduceAdd]; exact rfl) ?_) | (refine arl_nil ?_) | (refine aw_skip ?_) | (refine aw_block ?_) | (refine aw_exit ?_) | (refine aw_ret ?_) | (refine arl_cons rfl rfl (by simp +decide only [aop, abuiltin, aeval, aintBin, bin_int, aload_bump, SS, reduceIte, reduceCtorEq, f0, f6, hln, hd]; exact rfl) (by first | rfl | assumption) rfl ?_) | (refine arl_none rfl rfl (by simp +decide only [aop, abuiltin, aeval, aintBin, bin_int, aload_bump, SS, reduceIte, reduceCtorEq, f0, f6, hln, hd]; exact rfl) rfl rfl ?_) | (refine arl_off rfl rfl ?_) | (refine aw_condT (by simp +decide only [aop, abuiltin, aeval, aintBin, bin_int, aload_bump, SS, reduceIte, reduceCtorEq, f0, f6, hln, hd]; first | done | exact rfl) ?_) | (refine aw_condF (by simp +decide only [aop, abuiltin, aeval, aintBin, bin_int, aload_bump, SS, reduceIte, reduceCtorEq, f0, f6, hln, hd]; first | done | exact rfl) ?_))
      refine arl_call rfl rfl rfl rfl rfl rfl ((rGet_ok (by repeat (first | assumption | (refine WF.bump ?_ _))) a ((h.up hE).up (by repeat (first | exact Keeps.refl _ _ | (refine Keeps.bumpR ?_ _)))) (by omega) hby).wf (by repeat (first | assumption | (refine WF.bump ?_ _) | (refine WF.put ?_ (by simp only [n_bump, n_put, n_touch, n_kill] at *; omega) (by simp only [n_bump, n_put, n_touch, n_kill] at *; omega)))) |>.mono ?_)
      rintro r s1 ⟨hw1, hn1, hE1, rfl⟩
      refine ⟨by first | rfl | assumption, ?_⟩
      replace hE1 : Ext sx s1 := Keeps.trans (by repeat (first | assumption | exact Keeps.refl _ _ | (refine Keeps.bumpR ?_ _) | (refine Keeps.put ?_ (by assumption) (by simp only [n_bump, n_put, n_touch, n_kill] at *; omega)))) hE1
      have hN1 := hE1.n
      have hS1 := hE.trans hE1
      by_cases he : (getS 10 1 b a).2.2 = 0
      · rw [if_pos he] at hga
        obtain ⟨m, e, h3, h4⟩ := getS_next b a ha he
        have q1 := neF he
        have hO1 := hO.up hE1
        repeat (first | (refine aw_seq ?_) | (refine aw_reg0 (by simp only [SZ, Nat.reduceAdd]; exact rfl) ?_) | (refine aw_reg (by decide +kernel) (by simp only [SZ, Nat.reduceAdd]; exact rfl) ?_) | (refine aw_regS (by decide +kernel) (by simp only [SZ, Nat.reduceAdd]; exact rfl) ?_) | (refine arl_nil ?_) | (refine aw_skip ?_) | (refine aw_block ?_) | (refine aw_exit ?_) | (refine aw_ret ?_) | (refine arl_cons rfl rfl (by simp +decide only [aop, abuiltin, aeval, aintBin, bin_int, aload_bump, SS, reduceIte, reduceCtorEq, getV, q1, litI1]; exact rfl) (by first | rfl | assumption) rfl ?_) | (refine arl_none rfl rfl (by simp +decide only [aop, abuiltin, aeval, aintBin, bin_int, aload_bump, SS, reduceIte, reduceCtorEq, getV, q1, litI1]; exact rfl) rfl rfl ?_) | (refine arl_off rfl rfl ?_) | (refine aw_condT (by simp +decide only [aop, abuiltin, aeval, aintBin, bin_int, aload_bump, SS, reduceIte, reduceCtorEq, getV, q1, litI1]; first | done | exact rfl) ?_) | (refine aw_condF (by simp +decide only [aop, abuiltin, aeval, aintBin, bin_int, aload_bump, SS, reduceIte, reduceCtorEq, getV, q1, litI1]; first | done | exact rfl) ?_))
        refine arl_appX (k := numK) (K0 := fun g => st.n ≤ g) (L0 := fun _ _ => False) (Kx := fun _ => True) (Kn := fun _ => False) (K := fun g => st.n ≤ g) (L := fun _ _ => False) (xs := acc) (ns := [zag (getS 10 1 b a).1]) TI rfl rfl rfl (hO1.up (by repeat (first | assumption | exact Keeps.refl _ _ | (refine Keeps.bumpR ?_ _) | (refine Keeps.put ?_ (by assumption) (by simp only [n_bump, n_put, n_touch, n_kill] at *; omega))))) (num_app _) (fun g _ h => h) ⟨fun h => h, fun _ => (by first | omega | (simp only [n_bump, n_put]; omega) | (simp only [n_bump, n_put] at *; omega))⟩ (fun _ h => h) (fun _ _ _ h => h) (fun _ _ _ _ h => h) ?hfr (by simp; omega) (by simp; omega) ?_
        case hfr =>
          rw [get_put_ne _ (by omega)]
          exact fresh hw1 (by first | omega | (simp only [n_bump, n_put]; omega) | (simp only [n_bump, n_put] at *; omega))
        intro y s2 hO2 hn2 hK2 hwf2
        have hys := hO2.solid
        have hS2 : Ext st s2 := Keeps.call hS1 (Keeps.trans (Keeps.mono (G := fun _ => False) (show Ext s1 _ from (by repeat (first | assumption | exact Keeps.refl _ _ | (refine Keeps.bumpR ?_ _) | (refine Keeps.put ?_ (by assumption) (by simp only [n_bump, n_put, n_touch, n_kill] at *; omega))))) (fun _ h => h.elim)) hK2) hw (fun g h => .inr h)
        repeat (first | (refine aw_seq ?_) | (refine aw_reg0 (by simp only [SZ, Nat.reduceAdd]; exact rfl) ?_) | (refine aw_reg (by decide +kernel) (by simp only [SZ, Nat.reduceAdd]; exact rfl) ?_) | (refine aw_regS (by decide +kernel) (by simp only [SZ, Nat.reduceAdd]; exact rfl) ?_) | (refine arl_nil ?_) | (refine aw_skip ?_) | (refine aw_block ?_) | (refine aw_exit ?_) | (refine aw_ret ?_) | (refine arl_cons rfl rfl (by simp +decide only [aop, abuiltin, aeval, aintBin, bin_int, aload_bump, SS, reduceIte, reduceCtorEq]; exact rfl) (by first | rfl | assumption) rfl ?_) | (refine arl_none rfl rfl (by simp +decide only [aop, abuiltin, aeval, aintBin, bin_int, aload_bump, SS, reduceIte, reduceCtorEq]; exact rfl) rfl rfl ?_) | (refine arl_off rfl rfl ?_) | (refine aw_condT (by simp +decide only [aop, abuiltin, aeval, aintBin, bin_int, aload_bump, SS, reduceIte, reduceCtorEq]; first | done | exact rfl) ?_) | (refine aw_condF (by simp +decide only [aop, abuiltin, aeval, aintBin, bin_int, aload_bump, SS, reduceIte, reduceCtorEq]; first | done | exact rfl) ?_))
        refine ⟨b.length - m, by omega, hS2.trans (by repeat (first | exact Keeps.refl _ _ | (refine Keeps.bumpR ?_ _))), n, m, _, by omega, h4, by simp; omega, rfl, by rw [← e]; exact hga, f0, ?_, hO2.up (by repeat (first | exact Keeps.refl _ _ | (refine Keeps.bumpR ?_ _)))⟩
        show AV.pl _ = _
        rw [e]
      · rw [if_neg he] at hga
        have q1 := neT he
        repeat (first | (refine aw_seq ?_) | (refine aw_reg0 (by simp only [SZ, Nat.reduceAdd]; exact rfl) ?_) | (refine aw_reg (by decide +kernel) (by simp only [SZ, Nat.reduceAdd]; exact rfl) ?_) | (refine aw_regS (by decide +kernel) (by simp only [SZ, Nat.reduceAdd]; exact rfl) ?_) | (refine arl_nil ?_) | (refine aw_skip ?_) | (refine aw_block ?_) | (refine aw_exit ?_) | (refine aw_ret ?_) | (refine arl_cons rfl rfl (by simp +decide only [aop, abuiltin, aeval, aintBin, bin_int, aload_bump, SS, reduceIte, reduceCtorEq, getV, q1, f6]; exact rfl) (by first | rfl | assumption) rfl ?_) | (refine arl_none rfl rfl (by simp +decide only [aop, abuiltin, aeval, aintBin, bin_int, aload_bump, SS, reduceIte, reduceCtorEq, getV, q1, f6]; exact rfl) rfl rfl ?_) | (refine arl_off rfl rfl ?_) | (refine aw_condT (by simp +decide only [aop, abuiltin, aeval, aintBin, bin_int, aload_bump, SS, reduceIte, reduceCtorEq, getV, q1, f6]; first | done | exact rfl) ?_) | (refine aw_condF (by simp +decide only [aop, abuiltin, aeval, aintBin, bin_int, aload_bump, SS, reduceIte, reduceCtorEq, getV, q1, f6]; first | done | exact rfl) ?_))
        refine ⟨.inr rfl, _, rfl, hS1.trans (by repeat (first | exact Keeps.refl _ _ | (refine Keeps.bumpR ?_ _))), _, by rw [hga]; rfl, rfl, ?_⟩
        rw [hga]
        exact OwX.nil
    · have hd : decide ((a : Int) < (b.length : Int)) = false := decide_eq_false (by omega)
      have hga2 : ga b n acc a = (acc, 0, 0) := by
        cases n with
        | zero => rfl
        | succ n => rw [ga, if_neg (by omega)]
      rw [hga2] at hga
      repeat (first | (refine aw_seq ?_) | (refine aw_reg0 (by simp only [SZ, Nat.reduceAdd]; exact rfl) ?_) | (refine aw_reg (by decide +kernel) (by simp only [SZ, Nat.reduceAdd]; exact rfl) ?_) | (refine aw_regS (by decide +kernel) (by simp only [SZ, Nat.reduceAdd]; exact rfl) ?_) | (refine arl_nil ?_) | (refine aw_skip ?_) | (refine aw_block ?_) | (refine aw_exit ?_) | (refine aw_ret ?_) | (refine arl_cons rfl rfl (by simp +decide only [aop, abuiltin, aeval, aintBin, bin_int, aload_bump, SS, reduceIte, reduceCtorEq, f0, f6, hln, hd]; exact rfl) (by first | rfl | assumption) rfl ?_) | (refine arl_none rfl rfl (by simp +decide only [aop, abuiltin, aeval, aintBin, bin_int, aload_bump, SS, reduceIte, reduceCtorEq, f0, f6, hln, hd]; exact rfl) rfl rfl ?_) | (refine arl_off rfl rfl ?_) | (refine aw_condT (by simp +decide only [aop, abuiltin, aeval, aintBin, bin_int, aload_bump, SS, reduceIte, reduceCtorEq, f0, f6, hln, hd]; first | done | exact rfl) ?_) | (refine aw_condF (by simp +decide only [aop, abuiltin, aeval, aintBin, bin_int, aload_bump, SS, reduceIte, reduceCtorEq, f0, f6, hln, hd]; first | done | exact rfl) ?_))
      refine ⟨.inr rfl, _, rfl, hE.trans (by repeat (first | exact Keeps.refl _ _ | (refine Keeps.bumpR ?_ _))), _, by rw [hga]; rfl, hos, ?_⟩
      rw [hga]
      exact hO.up (by repeat (first | exact Keeps.refl _ _ | (refine Keeps.bumpR ?_ _)))
  · exact ⟨(by repeat (first | assumption | exact Keeps.refl _ _ | (refine Keeps.bumpR ?_ _) | (refine Keeps.put ?_ (by assumption) (by simp only [n_bump, n_put, n_touch, n_kill] at *; omega)))), b.length, 0, [], by omega, by omega, by simp; omega, rfl, rfl, rfl, rfl, ((OwX.new' (k := numK) _ (get_put _ _)).mono (fun g (h : g = _) => by rw [h]; exact (by first | omega | (simp only [n_bump, n_put]; omega) | (simp only [n_bump, n_put] at *; omega))) (fun _ _ h => h)).up (by repeat (first | exact Keeps.refl _ _ | (refine Keeps.bumpR ?_ _)))⟩
theorem nsame_ok {st : St} (hw : WF st) {K K' : Nat → Prop} {v u : AV} {ts : List Int} (h : RdE numK st K v ts) (h' : RdE numK st K' u ts) (hl : ts.length ≤ 140737488355327) :
    ACalls Try.prog 30 [v, u] st (fun r s => Ext st s ∧ r = .pl (.bool true)) := by
  have hvs := h.solid
  have hus := h'.solid
  have hln := h.len TI
  have hln' := h'.len TI
  have hbq := neF (a := (ts.length : Int)) rfl
  refine acalls_of Try.func30 rfl (by kernel_rfl) (by simp [hvs, hus]) ?_
  repeat (first | (refine aw_seq ?_) | (refine aw_reg0 (by simp only [SZ, Nat.reduceAdd]; exact rfl) ?_) | (refine aw_reg (by decide +kernel) (by simp only [SZ, Nat.reduceAdd]; exact rfl) ?_) | (refine aw_regS (by decide +kernel) (by simp only [SZ, Nat.reduceAdd]; exact rfl) ?_) | (refine arl_nil ?_) | (refine aw_skip ?_) | (refine aw_block ?_) | (refine aw_exit ?_) | (refine aw_ret ?_) | (refine arl_cons rfl rfl (by simp +decide only [aop, abuiltin, aeval, aintBin, bin_int, aload_bump, SS, reduceIte, reduceCtorEq, hln, hln', hbq]; exact rfl) (by first | rfl | assumption) rfl ?_) | (refine arl_none rfl rfl (by simp +decide only [aop, abuiltin, aeval, aintBin, bin_int, aload_bump, SS, reduceIte, reduceCtorEq, hln, hln', hbq]; exact rfl) rfl rfl ?_) | (refine arl_off rfl rfl ?_) | (refine aw_condT (by simp +decide only [aop, abuiltin, aeval, aintBin, bin_int, aload_bump, SS, reduceIte, reduceCtorEq, hln, hln', hbq]; first | done | exact rfl) ?_) | (refine aw_condF (by simp +decide only [aop, abuiltin, aeval, aintBin, bin_int, aload_bump, SS, reduceIte, reduceCtorEq, hln, hln', hbq]; first | done | exact rfl) ?_))
  refine aw_rounds_wf (fun m fr s => Ext st s ∧ ∃ k : Nat, k ≤ ts.length ∧ m = ts.length - k ∧ fr 0 = v ∧ fr 1 = u ∧ fr 12 = i64 ts.length ∧ fr 13 = i64 k) ?_ ts.length _ _ (by repeat (first | assumption | (refine WF.bump ?_ _))) ?_
  · rintro m fr s hws ⟨hE, k, hk, rfl, f0, f1, f12, f13⟩
    have hEn := hE.n
    by_cases hlt : k < ts.length
    · have hd : decide ((k : Int) < (ts.length : Int)) = true := decide_eq_true (by omega)
      obtain ⟨p, a1, a2, a3⟩ := num_at (h.up hE) k hlt
      obtain ⟨q, b1, b2, b3⟩ := num_at (h'.up hE) k hlt
      have q1 := neF (a := ts[k]) rfl
      have hwk := wrap_succ (k := k) (by omega)
      repeat (first | (refine aw_seq ?_) | (refine aw_reg0 (by simp only [SZ, Nat.reduceAdd]; exact rfl) ?_) | (refine aw_reg (by decide +kernel) (by simp only [SZ, Nat.reduceAdd]; exact rfl) ?_) | (refine aw_regS (by decide +kernel) (by simp only [SZ, Nat.reduceAdd]; exact rfl) ?_) | (refine arl_nil ?_) | (refine aw_skip ?_) | (refine aw_block ?_) | (refine aw_exit ?_) | (refine aw_ret ?_) | (refine arl_cons rfl rfl (by simp +decide only [aop, abuiltin, aeval, aintBin, bin_int, aload_bump, SS, reduceIte, reduceCtorEq, f12, f13, hd, f0, f1, a1, a3, b1, b3, q1, hwk]; exact rfl) (by first | rfl | assumption) rfl ?_) | (refine arl_none rfl rfl (by simp +decide only [aop, abuiltin, aeval, aintBin, bin_int, aload_bump, SS, reduceIte, reduceCtorEq, f12, f13, hd, f0, f1, a1, a3, b1, b3, q1, hwk]; exact rfl) rfl rfl ?_) | (refine arl_off rfl rfl ?_) | (refine aw_condT (by simp +decide only [aop, abuiltin, aeval, aintBin, bin_int, aload_bump, SS, reduceIte, reduceCtorEq, f12, f13, hd, f0, f1, a1, a3, b1, b3, q1, hwk]; first | done | exact rfl) ?_) | (refine aw_condF (by simp +decide only [aop, abuiltin, aeval, aintBin, bin_int, aload_bump, SS, reduceIte, reduceCtorEq, f12, f13, hd, f0, f1, a1, a3, b1, b3, q1, hwk]; first | done | exact rfl) ?_))
      exact ⟨ts.length - (k + 1), by omega, hE.trans (by repeat (first | exact Keeps.refl _ _ | (refine Keeps.bumpR ?_ _))), k + 1, by omega, rfl, f0, f1, f12, rfl⟩
    · have hd : decide ((k : Int) < (ts.length : Int)) = false := decide_eq_false (by omega)
      repeat (first | (refine aw_seq ?_) | (refine aw_reg0 (by simp only [SZ, Nat.reduceAdd]; exact rfl) ?_) | (refine aw_reg (by decide +kernel) (by simp only [SZ, Nat.reduceAdd]; exact rfl) ?_) | (refine aw_regS (by decide +kernel) (by simp only [SZ, Nat.reduceAdd]; exact rfl) ?_) | (refine arl_nil ?_) | (refine aw_skip ?_) | (refine aw_block ?_) | (refine aw_exit ?_) | (refine aw_ret ?_) | (refine arl_cons rfl rfl (by simp +decide only [aop, abuiltin, aeval, aintBin, bin_int, aload_bump, SS, reduceIte, reduceCtorEq, f12, f13, hd]; exact rfl) (by first | rfl | assumption) rfl ?_) | (refine arl_none rfl rfl (by simp +decide only [aop, abuiltin, aeval, aintBin, bin_int, aload_bump, SS, reduceIte, reduceCtorEq, f12, f13, hd]; exact rfl) rfl rfl ?_) | (refine arl_off rfl rfl ?_) | (refine aw_condT (by simp +decide only [aop, abuiltin, aeval, aintBin, bin_int, aload_bump, SS, reduceIte, reduceCtorEq, f12, f13, hd]; first | done | exact rfl) ?_) | (refine aw_condF (by simp +decide only [aop, abuiltin, aeval, aintBin, bin_int, aload_bump, SS, reduceIte, reduceCtorEq, f12, f13, hd]; first | done | exact rfl) ?_))
      exact ⟨.inr rfl, _, rfl, hE.trans (by repeat (first | exact Keeps.refl _ _ | (refine Keeps.bumpR ?_ _))), rfl⟩
  · exact ⟨(by repeat (first | exact Keeps.refl _ _ | (refine Keeps.bumpR ?_ _))), 0, by omega, rfl, rfl, rfl, rfl, rfl⟩
theorem litV3 (id : Nat) : abuildSlice Try.prog 27 id 3 [(0, u8 9), (1, u8 128), (2, u8 1)] = some (.sl id 0 3 1, ⟨[9, 128, 1].map u8, 5, true, id⟩) := lits id [9, 128, 1] (by decide)
theorem getV3 : getV [9, 128, 1] 1 = .tup [i64 64, i64 3, i64 0] := by
  have e : getS 10 1 [9, 128, 1] 1 = (128, 3, 0) := by decide +kernel
  unfold getV
  rw [e]
  rfl
theorem vput64 : vput (-64) = [127] := by
  unfold vput
  rw [show (zig (-64)).toNat = 127 by decide]
  exact dig_small (by decide)
theorem valive_ok {st : St} (hw : WF st) : ACalls Try.prog 10 [] st (fun r s => Ext st s ∧ r = .pl (.bool true)) := by
  refine acalls_of Try.func10 rfl (by kernel_rfl) rfl ?_
  repeat (first | (refine aw_seq ?_) | (refine aw_reg0 (by simp only [SZ, Nat.reduceAdd]; exact rfl) ?_) | (refine aw_reg (by decide +kernel) (by simp only [SZ, Nat.reduceAdd]; exact rfl) ?_) | (refine aw_regS (by decide +kernel) (by simp only [SZ, Nat.reduceAdd]; exact rfl) ?_) | (refine arl_nil ?_) | (refine aw_skip ?_) | (refine aw_block ?_) | (refine aw_exit ?_) | (refine aw_ret ?_) | (refine arl_cons rfl rfl (by simp +decide only [aop, abuiltin, aeval, aintBin, bin_int, aload_bump, SS, reduceIte, reduceCtorEq, litV3]; exact rfl) (by first | rfl | assumption) rfl ?_) | (refine arl_none rfl rfl (by simp +decide only [aop, abuiltin, aeval, aintBin, bin_int, aload_bump, SS, reduceIte, reduceCtorEq, litV3]; exact rfl) rfl rfl ?_) | (refine arl_off rfl rfl ?_) | (refine aw_condT (by simp +decide only [aop, abuiltin, aeval, aintBin, bin_int, aload_bump, SS, reduceIte, reduceCtorEq, litV3]; first | done | exact rfl) ?_) | (refine aw_condF (by simp +decide only [aop, abuiltin, aeval, aintBin, bin_int, aload_bump, SS, reduceIte, reduceCtorEq, litV3]; first | done | exact rfl) ?_))
  refine arl_call rfl rfl rfl rfl rfl rfl ((vGet_ok (b := [9, 128, 1]) (by repeat (first | assumption | (refine WF.bump ?_ _) | (refine WF.put ?_ (by simp only [n_bump, n_put, n_touch, n_kill] at *; omega) (by simp only [n_bump, n_put, n_touch, n_kill] at *; omega)))) 1 (RdB.lit _ _ _ [9, 128, 1]) (by simp) (by intro x hx; simp at hx; omega)).wf (by repeat (first | assumption | (refine WF.bump ?_ _) | (refine WF.put ?_ (by simp only [n_bump, n_put, n_touch, n_kill] at *; omega) (by simp only [n_bump, n_put, n_touch, n_kill] at *; omega)))) |>.mono ?_)
  rintro r s1 ⟨hw1, hn1, hE1, rfl⟩
  refine ⟨by rw [getV3]; rfl, ?_⟩
  rw [getV3]
  replace hE1 : Ext st s1 := Keeps.trans (show Ext st _ from (by repeat (first | assumption | exact Keeps.refl _ _ | (refine Keeps.bumpR ?_ _) | (refine Keeps.put ?_ (by assumption) (by simp only [n_bump, n_put, n_touch, n_kill] at *; omega))))) hE1
  repeat (first | (refine aw_seq ?_) | (refine aw_reg0 (by simp only [SZ, Nat.reduceAdd]; exact rfl) ?_) | (refine aw_reg (by decide +kernel) (by simp only [SZ, Nat.reduceAdd]; exact rfl) ?_) | (refine aw_regS (by decide +kernel) (by simp only [SZ, Nat.reduceAdd]; exact rfl) ?_) | (refine arl_nil ?_) | (refine aw_skip ?_) | (refine aw_block ?_) | (refine aw_exit ?_) | (refine aw_ret ?_) | (refine arl_cons rfl rfl (by simp +decide only [aop, abuiltin, aeval, aintBin, bin_int, aload_bump, SS, reduceIte, reduceCtorEq]; exact rfl) (by first | rfl | assumption) rfl ?_) | (refine arl_none rfl rfl (by simp +decide only [aop, abuiltin, aeval, aintBin, bin_int, aload_bump, SS, reduceIte, reduceCtorEq]; exact rfl) rfl rfl ?_) | (refine arl_off rfl rfl ?_) | (refine aw_condT (by simp +decide only [aop, abuiltin, aeval, aintBin, bin_int, aload_bump, SS, reduceIte, reduceCtorEq]; first | done | exact rfl) ?_) | (refine aw_condF (by simp +decide only [aop, abuiltin, aeval, aintBin, bin_int, aload_bump, SS, reduceIte, reduceCtorEq]; first | done | exact rfl) ?_))
  refine arl_call rfl rfl rfl rfl rfl rfl ((vPut_ok (by repeat (first | assumption | (refine WF.bump ?_ _))) (v := -64) (by unfold fit; omega)).dead.wf (by repeat (first | assumption | (refine WF.bump ?_ _) | (refine WF.put ?_ (by simp only [n_bump, n_put, n_touch, n_kill] at *; omega) (by simp only [n_bump, n_put, n_touch, n_kill] at *; omega)))) |>.mono ?_)
  rintro r s2 ⟨hw2, hn2, hd2, hE2, hrs, hO⟩
  refine ⟨hrs, ?_⟩
  have hid : s2.get (s1.n + 12) = none := hd2 _ (by first | omega | (simp only [n_bump, n_put]; omega) | (simp only [n_bump, n_put] at *; omega)) (fresh hw1 (by first | omega | (simp only [n_bump, n_put]; omega) | (simp only [n_bump, n_put] at *; omega)))
  replace hE2 : Ext s1 s2 := Keeps.trans (show Ext s1 _ from (by repeat (first | exact Keeps.refl _ _ | (refine Keeps.bumpR ?_ _)))) hE2
  rw [vput64] at hO
  have hx : Ext s2 (s2.put (s1.n + 12) ⟨[127].map u8, 5, true, s1.n + 12⟩) := Keeps.putF (Keeps.refl _ _) hid
  have hn12 : s1.n + 12 < s2.n := (by first | omega | (simp only [n_bump, n_put]; omega) | (simp only [n_bump, n_put] at *; omega))
  repeat (first | (refine aw_seq ?_) | (refine aw_reg0 (by simp only [SZ, Nat.reduceAdd]; exact rfl) ?_) | (refine aw_reg (by decide +kernel) (by simp only [SZ, Nat.reduceAdd]; exact rfl) ?_) | (refine aw_regS (by decide +kernel) (by simp only [SZ, Nat.reduceAdd]; exact rfl) ?_) | (refine arl_nil ?_) | (refine aw_skip ?_) | (refine aw_block ?_) | (refine aw_exit ?_) | (refine aw_ret ?_) | (refine arl_cons rfl rfl (by simp +decide only [aop, abuiltin, aeval, aintBin, bin_int, aload_bump, SS, reduceIte, reduceCtorEq, lit1]; exact rfl) (by first | rfl | assumption) rfl ?_) | (refine arl_none rfl rfl (by simp +decide only [aop, abuiltin, aeval, aintBin, bin_int, aload_bump, SS, reduceIte, reduceCtorEq, lit1]; exact rfl) rfl rfl ?_) | (refine arl_off rfl rfl ?_) | (refine aw_condT (by simp +decide only [aop, abuiltin, aeval, aintBin, bin_int, aload_bump, SS, reduceIte, reduceCtorEq, lit1]; first | done | exact rfl) ?_) | (refine aw_condF (by simp +decide only [aop, abuiltin, aeval, aintBin, bin_int, aload_bump, SS, reduceIte, reduceCtorEq, lit1]; first | done | exact rfl) ?_))
  refine arl_call rfl rfl rfl rfl rfl rfl ((same_self (xs := [127]) (by repeat (first | assumption | (refine WF.bump ?_ _) | (refine WF.put ?_ (by simp only [n_bump, n_put, n_touch, n_kill] at *; omega) (by simp only [n_bump, n_put, n_touch, n_kill] at *; omega)))) (hO.rd.up hx) (RdB.lit _ _ _ [127]) (by simp)).wf (by repeat (first | assumption | (refine WF.bump ?_ _) | (refine WF.put ?_ (by simp only [n_bump, n_put, n_touch, n_kill] at *; omega) (by simp only [n_bump, n_put, n_touch, n_kill] at *; omega)))) |>.mono ?_)
  rintro r s3 ⟨hw3, hn3, hE3, rfl⟩
  refine ⟨rfl, ?_⟩
  replace hE3 : Ext s2 s3 := hx.trans hE3
  repeat (first | (refine aw_seq ?_) | (refine aw_reg0 (by simp only [SZ, Nat.reduceAdd]; exact rfl) ?_) | (refine aw_reg (by decide +kernel) (by simp only [SZ, Nat.reduceAdd]; exact rfl) ?_) | (refine aw_regS (by decide +kernel) (by simp only [SZ, Nat.reduceAdd]; exact rfl) ?_) | (refine arl_nil ?_) | (refine aw_skip ?_) | (refine aw_block ?_) | (refine aw_exit ?_) | (refine aw_ret ?_) | (refine arl_cons rfl rfl (by simp +decide only [aop, abuiltin, aeval, aintBin, bin_int, aload_bump, SS, reduceIte, reduceCtorEq]; exact rfl) (by first | rfl | assumption) rfl ?_) | (refine arl_none rfl rfl (by simp +decide only [aop, abuiltin, aeval, aintBin, bin_int, aload_bump, SS, reduceIte, reduceCtorEq]; exact rfl) rfl rfl ?_) | (refine arl_off rfl rfl ?_) | (refine aw_condT (by simp +decide only [aop, abuiltin, aeval, aintBin, bin_int, aload_bump, SS, reduceIte, reduceCtorEq]; first | done | exact rfl) ?_) | (refine aw_condF (by simp +decide only [aop, abuiltin, aeval, aintBin, bin_int, aload_bump, SS, reduceIte, reduceCtorEq]; first | done | exact rfl) ?_))
  exact ⟨.inr rfl, _, rfl, ((hE1.trans hE2).trans hE3).trans (by repeat (first | exact Keeps.refl _ _ | (refine Keeps.bumpR ?_ _))), rfl⟩
end Go.Proofs.Ythkbnmlelolljaa.Ra
