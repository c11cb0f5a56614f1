/- vint.Get; leatref02: get, value, Get. -/
import Derived.Test.YtoohookgimkhbaaVc
namespace Go.Proofs.Ytoohookgimkhbaa.Ra
open Go Go.RowKit Vn
set_option linter.unusedVariables false
set_option linter.unusedSimpArgs false
set_option maxRecDepth 10000
/-- What 'Get' answers. -/
def getV (b : List Int) (at_ : Int) : AV := .tup [i64 (zag (getS 10 1 b at_).1), i64 (getS 10 1 b at_).2.1, i64 (getS 10 1 b at_).2.2]
theorem vGet_ok {st : St} (hw : WF st) {K : Nat → Prop} {v : AV} {b : List Int} (at_ : Int) (h : RdB st K v b) (hl : b.length ≤ 140737488355) (hby : byts b) :
    ACalls Try.prog 37 [v, i64 at_] st (fun r s => Ext st s ∧ r = getV b at_) := by
  replace h := h.lt hw
  have hvs := h.solid
  have hr := getS_range 10 1 (by decide) (by decide) (by decide) b at_ hby
  refine acalls_of Try.func37 rfl (by kernel_rfl) (by simp [hvs]; rfl) ?_
  repeat (first | (refine aw_seq ?_) | (refine aw_reg0 (by simp only [SZ, Nat.reduceAdd]; exact rfl) ?_) | (refine aw_reg (by decide +kernel) (by simp only [SZ, Nat.reduceAdd]; exact rfl) ?_) | (refine aw_regS (by decide +kernel) (by simp only [SZ, Nat.reduceAdd]; exact rfl) ?_) | (refine arl_nil ?_) | (refine aw_skip ?_) | (refine aw_block ?_) | (refine aw_exit ?_) | (refine aw_ret ?_) | (refine arl_cons rfl rfl (by simp +decide only [aop, abuiltin, aeval, aintBin, bin_int, aload_bump, SS, reduceIte, reduceCtorEq]; exact rfl) (by first | rfl | with_reducible assumption) rfl ?_) | (refine arl_none rfl rfl (by simp +decide only [aop, abuiltin, aeval, aintBin, bin_int, aload_bump, SS, reduceIte, reduceCtorEq]; exact rfl) rfl rfl ?_) | (refine arl_off rfl rfl ?_) | (refine aw_condT (by simp +decide only [aop, abuiltin, aeval, aintBin, bin_int, aload_bump, SS, reduceIte, reduceCtorEq]; first | done | exact rfl) ?_) | (refine aw_condF (by simp +decide only [aop, abuiltin, aeval, aintBin, bin_int, aload_bump, SS, reduceIte, reduceCtorEq]; first | done | exact rfl) ?_))
  refine arl_call rfl rfl rfl rfl rfl rfl ((vread_ok (by repeat (first | assumption | (refine WF.bump ?_ _))) at_ 10 1 (h.up (by repeat (first | exact Keeps.refl _ _ | (refine Keeps.bumpR ?_ _)))) hl hby (by decide) (by decide) (by decide) (by decide) (fun _ => rfl)).wf (by repeat (first | assumption | (refine WF.bump ?_ _) | (refine WF.put ?_ (by simp only [n_bump, n_put, n_touch, n_kill] at *; omega) (by simp only [n_bump, n_put, n_touch, n_kill] at *; omega)))) |>.mono ?_)
  rintro r s1 ⟨hw1, hn1, hE1, rfl⟩
  refine ⟨by first | rfl | with_reducible assumption, ?_⟩
  replace hE1 : Ext st s1 := Keeps.trans (by repeat (first | assumption | exact Keeps.refl _ _ | (refine Keeps.bumpR ?_ _) | (refine Keeps.put ?_ (by assumption) (by simp only [n_bump, n_put, n_touch, n_kill] at *; omega)))) hE1
  have hN1 := hE1.n
  repeat (first | (refine aw_seq ?_) | (refine aw_reg0 (by simp only [SZ, Nat.reduceAdd]; exact rfl) ?_) | (refine aw_reg (by decide +kernel) (by simp only [SZ, Nat.reduceAdd]; exact rfl) ?_) | (refine aw_regS (by decide +kernel) (by simp only [SZ, Nat.reduceAdd]; exact rfl) ?_) | (refine arl_nil ?_) | (refine aw_skip ?_) | (refine aw_block ?_) | (refine aw_exit ?_) | (refine aw_ret ?_) | (refine arl_cons rfl rfl (by simp +decide only [aop, abuiltin, aeval, aintBin, bin_int, aload_bump, SS, reduceIte, reduceCtorEq]; exact rfl) (by first | rfl | with_reducible assumption) rfl ?_) | (refine arl_none rfl rfl (by simp +decide only [aop, abuiltin, aeval, aintBin, bin_int, aload_bump, SS, reduceIte, reduceCtorEq]; exact rfl) rfl rfl ?_) | (refine arl_off rfl rfl ?_) | (refine aw_condT (by simp +decide only [aop, abuiltin, aeval, aintBin, bin_int, aload_bump, SS, reduceIte, reduceCtorEq]; first | done | exact rfl) ?_) | (refine aw_condF (by simp +decide only [aop, abuiltin, aeval, aintBin, bin_int, aload_bump, SS, reduceIte, reduceCtorEq]; first | done | exact rfl) ?_))
  refine arl_call rfl rfl rfl rfl rfl rfl ((vZag_ok (by repeat (first | assumption | (refine WF.bump ?_ _))) hr.1 (by omega)).wf (by repeat (first | assumption | (refine WF.bump ?_ _) | (refine WF.put ?_ (by simp only [n_bump, n_put, n_touch, n_kill] at *; omega) (by simp only [n_bump, n_put, n_touch, n_kill] at *; omega)))) |>.mono ?_)
  rintro r s2 ⟨hw2, hn2, hE2, rfl⟩
  refine ⟨by first | rfl | with_reducible assumption, ?_⟩
  replace hE2 : Ext s1 s2 := Keeps.trans (by repeat (first | assumption | exact Keeps.refl _ _ | (refine Keeps.bumpR ?_ _) | (refine Keeps.put ?_ (by assumption) (by simp only [n_bump, n_put, n_touch, n_kill] at *; omega)))) hE2
  have hN2 := hE2.n
  repeat (first | (refine aw_seq ?_) | (refine aw_reg0 (by simp only [SZ, Nat.reduceAdd]; exact rfl) ?_) | (refine aw_reg (by decide +kernel) (by simp only [SZ, Nat.reduceAdd]; exact rfl) ?_) | (refine aw_regS (by decide +kernel) (by simp only [SZ, Nat.reduceAdd]; exact rfl) ?_) | (refine arl_nil ?_) | (refine aw_skip ?_) | (refine aw_block ?_) | (refine aw_exit ?_) | (refine aw_ret ?_) | (refine arl_cons rfl rfl (by simp +decide only [aop, abuiltin, aeval, aintBin, bin_int, aload_bump, SS, reduceIte, reduceCtorEq]; exact rfl) (by first | rfl | with_reducible assumption) rfl ?_) | (refine arl_none rfl rfl (by simp +decide only [aop, abuiltin, aeval, aintBin, bin_int, aload_bump, SS, reduceIte, reduceCtorEq]; exact rfl) rfl rfl ?_) | (refine arl_off rfl rfl ?_) | (refine aw_condT (by simp +decide only [aop, abuiltin, aeval, aintBin, bin_int, aload_bump, SS, reduceIte, reduceCtorEq]; first | done | exact rfl) ?_) | (refine aw_condF (by simp +decide only [aop, abuiltin, aeval, aintBin, bin_int, aload_bump, SS, reduceIte, reduceCtorEq]; first | done | exact rfl) ?_))
  exact ⟨.inr rfl, _, rfl, (hE1.trans hE2).trans (by repeat (first | exact Keeps.refl _ _ | (refine Keeps.bumpR ?_ _))), rfl⟩
set_option maxHeartbeats 1000000 in
theorem rget_ok {st : St} (hw : WF st) {K : Nat → Prop} {v : AV} {b : List Int} (at_ : Int) (most : Nat) (top : Int) (h : RdB st K v b) (hl : b.length ≤ 140737488355) (hby : byts b) (hm : 2 ≤ most) (hm10 : most ≤ 10) (htop : 0 ≤ top) (htop2 : top < 128) :
    ACalls Try.prog 48 [v, i64 at_, i64 most, .pl (.int .u8 top)] st (fun r s => Ext st s ∧ r = .tup [i64 (if at_ < 0 ∨ (b.length : Int) < at_ then (0, 3) else ends at_ (scan most top 0 0 (b.drop at_.toNat))).1, i64 (if at_ < 0 ∨ (b.length : Int) < at_ then (0, 3) else ends at_ (scan most top 0 0 (b.drop at_.toNat))).2]) := by
  replace h := h.lt hw
  have hvs := h.solid
  have hln := h.len
  refine acalls_of Try.func48 rfl (by kernel_rfl) (by simp [hvs]; exact ⟨rfl, rfl, rfl⟩) ?_
  by_cases h0 : at_ < 0
  · have hd := decide_eq_true h0
    rw [if_pos (.inl h0)]
    repeat (first | (refine aw_seq ?_) | (refine aw_reg0 (by simp only [SZ, Nat.reduceAdd]; exact rfl) ?_) | (refine aw_reg (by decide +kernel) (by simp only [SZ, Nat.reduceAdd]; exact rfl) ?_) | (refine aw_regS (by decide +kernel) (by simp only [SZ, Nat.reduceAdd]; exact rfl) ?_) | (refine arl_nil ?_) | (refine aw_skip ?_) | (refine aw_block ?_) | (refine aw_exit ?_) | (refine aw_ret ?_) | (refine arl_cons rfl rfl (by simp +decide only [aop, abuiltin, aeval, aintBin, bin_int, aload_bump, SS, reduceIte, reduceCtorEq, hd]; exact rfl) (by first | rfl | with_reducible assumption) rfl ?_) | (refine arl_none rfl rfl (by simp +decide only [aop, abuiltin, aeval, aintBin, bin_int, aload_bump, SS, reduceIte, reduceCtorEq, hd]; exact rfl) rfl rfl ?_) | (refine arl_off rfl rfl ?_) | (refine aw_condT (by simp +decide only [aop, abuiltin, aeval, aintBin, bin_int, aload_bump, SS, reduceIte, reduceCtorEq, hd]; first | done | exact rfl) ?_) | (refine aw_condF (by simp +decide only [aop, abuiltin, aeval, aintBin, bin_int, aload_bump, SS, reduceIte, reduceCtorEq, hd]; first | done | exact rfl) ?_))
    exact ⟨.inr rfl, _, rfl, (by repeat (first | exact Keeps.refl _ _ | (refine Keeps.bumpR ?_ _))), rfl⟩
  · have hd := decide_eq_false h0
    by_cases h1 : at_ > (b.length : Int)
    · have hd1 := decide_eq_true h1
      rw [if_pos (.inr h1)]
      repeat (first | (refine aw_seq ?_) | (refine aw_reg0 (by simp only [SZ, Nat.reduceAdd]; exact rfl) ?_) | (refine aw_reg (by decide +kernel) (by simp only [SZ, Nat.reduceAdd]; exact rfl) ?_) | (refine aw_regS (by decide +kernel) (by simp only [SZ, Nat.reduceAdd]; exact rfl) ?_) | (refine arl_nil ?_) | (refine aw_skip ?_) | (refine aw_block ?_) | (refine aw_exit ?_) | (refine aw_ret ?_) | (refine arl_cons rfl rfl (by simp +decide only [aop, abuiltin, aeval, aintBin, bin_int, aload_bump, SS, reduceIte, reduceCtorEq, hd, hln, hd1]; exact rfl) (by first | rfl | with_reducible assumption) rfl ?_) | (refine arl_none rfl rfl (by simp +decide only [aop, abuiltin, aeval, aintBin, bin_int, aload_bump, SS, reduceIte, reduceCtorEq, hd, hln, hd1]; exact rfl) rfl rfl ?_) | (refine arl_off rfl rfl ?_) | (refine aw_condT (by simp +decide only [aop, abuiltin, aeval, aintBin, bin_int, aload_bump, SS, reduceIte, reduceCtorEq, hd, hln, hd1]; first | done | exact rfl) ?_) | (refine aw_condF (by simp +decide only [aop, abuiltin, aeval, aintBin, bin_int, aload_bump, SS, reduceIte, reduceCtorEq, hd, hln, hd1]; first | done | exact rfl) ?_))
      exact ⟨.inr rfl, _, rfl, (by repeat (first | exact Keeps.refl _ _ | (refine Keeps.bumpR ?_ _))), rfl⟩
    · have hd1 := decide_eq_false h1
      rw [if_neg (by omega)]
      obtain ⟨a, rfl⟩ : ∃ a : Nat, at_ = a := ⟨at_.toNat, by omega⟩
      rw [Int.toNat_natCast]
      repeat (first | (refine aw_seq ?_) | (refine aw_reg0 (by simp only [SZ, Nat.reduceAdd]; exact rfl) ?_) | (refine aw_reg (by decide +kernel) (by simp only [SZ, Nat.reduceAdd]; exact rfl) ?_) | (refine aw_regS (by decide +kernel) (by simp only [SZ, Nat.reduceAdd]; exact rfl) ?_) | (refine arl_nil ?_) | (refine aw_skip ?_) | (refine aw_block ?_) | (refine aw_exit ?_) | (refine aw_ret ?_) | (refine arl_cons rfl rfl (by simp +decide only [aop, abuiltin, aeval, aintBin, bin_int, aload_bump, SS, reduceIte, reduceCtorEq, hd, hln, hd1]; exact rfl) (by first | rfl | with_reducible assumption) rfl ?_) | (refine arl_none rfl rfl (by simp +decide only [aop, abuiltin, aeval, aintBin, bin_int, aload_bump, SS, reduceIte, reduceCtorEq, hd, hln, hd1]; exact rfl) rfl rfl ?_) | (refine arl_off rfl rfl ?_) | (refine aw_condT (by simp +decide only [aop, abuiltin, aeval, aintBin, bin_int, aload_bump, SS, reduceIte, reduceCtorEq, hd, hln, hd1]; first | done | exact rfl) ?_) | (refine aw_condF (by simp +decide only [aop, abuiltin, aeval, aintBin, bin_int, aload_bump, SS, reduceIte, reduceCtorEq, hd, hln, hd1]; first | done | exact rfl) ?_))
      refine aw_rounds_wf (fun m fr s => Ext st s ∧ ∃ (i : Nat) (u : Int), a + i ≤ b.length ∧ m = b.length - (a + i) ∧ i < most ∧ fr 0 = v ∧ fr 1 = i64 a ∧ fr 2 = i64 most ∧ fr 3 = u8 top ∧ fr 10 = i64 i ∧ scan most top 0 0 (b.drop a) = scan most top i u (b.drop (a + i))) ?_ (b.length - a) _ _ (by repeat (first | assumption | (refine WF.bump ?_ _))) ?_
      · rintro m fr s hws ⟨hE, i, u, hi, rfl, him, f0, f1, f2, f3, f10, hsc⟩
        have hEn := hE.n
        have hd2 : decide ((i : Int) < (most : Int)) = true := decide_eq_true (by omega)
        have hwl : IntKind.i64.wrap ((b.length : Int) - (a : Int)) = (b.length : Int) - a := wrap64_of (by omega) (by omega)
        by_cases hlt : a + i < b.length
        · have hd3 : decide ((i : Int) ≥ (b.length : Int) - (a : Int)) = false := decide_eq_false (by omega)
          obtain ⟨p, hp1, hp2, hp3⟩ := (h.up hE).atN .i64 (a + i) hlt
          have hc := hby b[a + i] (List.getElem_mem hlt)
          rw [List.drop_eq_getElem_cons hlt, scan] at hsc
          generalize b[a + i] = c at *
          have hwm : IntKind.i64.wrap ((most : Int) - 1) = (most : Int) - 1 := wrap64_of (by omega) (by omega)
          have hwa : IntKind.i64.wrap ((a : Int) + (i : Int)) = ((a + i : Nat) : Int) := by rw [wrap64_of (by omega) (by omega)]; omega
          have hwk := wrap_succ (k := i) (by omega)
          by_cases hbad : i + 1 = most ∧ top < c
          · have q1 := eqT (a := (i : Int)) (b := (most : Int) - 1) (by omega)
            have q2 : decide (c > top) = true := decide_eq_true hbad.2
            rw [if_pos hbad] at hsc
            rw [hsc]
            repeat (first | (refine aw_seq ?_) | (refine aw_reg0 (by simp only [SZ, Nat.reduceAdd]; exact rfl) ?_) | (refine aw_reg (by decide +kernel) (by simp only [SZ, Nat.reduceAdd]; exact rfl) ?_) | (refine aw_regS (by decide +kernel) (by simp only [SZ, Nat.reduceAdd]; exact rfl) ?_) | (refine arl_nil ?_) | (refine aw_skip ?_) | (refine aw_block ?_) | (refine aw_exit ?_) | (refine aw_ret ?_) | (refine arl_cons rfl rfl (by simp +decide only [aop, abuiltin, aeval, aintBin, bin_int, aload_bump, SS, reduceIte, reduceCtorEq, f10, f2, hd2, f0, hln, f1, hwl, hd3, hwa, hp1, hp3, hwm, q1, f3, q2]; exact rfl) (by first | rfl | with_reducible assumption) rfl ?_) | (refine arl_none rfl rfl (by simp +decide only [aop, abuiltin, aeval, aintBin, bin_int, aload_bump, SS, reduceIte, reduceCtorEq, f10, f2, hd2, f0, hln, f1, hwl, hd3, hwa, hp1, hp3, hwm, q1, f3, q2]; exact rfl) rfl rfl ?_) | (refine arl_off rfl rfl ?_) | (refine aw_condT (by simp +decide only [aop, abuiltin, aeval, aintBin, bin_int, aload_bump, SS, reduceIte, reduceCtorEq, f10, f2, hd2, f0, hln, f1, hwl, hd3, hwa, hp1, hp3, hwm, q1, f3, q2]; first | done | exact rfl) ?_) | (refine aw_condF (by simp +decide only [aop, abuiltin, aeval, aintBin, bin_int, aload_bump, SS, reduceIte, reduceCtorEq, f10, f2, hd2, f0, hln, f1, hwl, hd3, hwa, hp1, hp3, hwm, q1, f3, q2]; first | done | exact rfl) ?_))
            exact ⟨.inr rfl, _, rfl, hE.trans (by repeat (first | exact Keeps.refl _ _ | (refine Keeps.bumpR ?_ _))), rfl⟩
          · rw [if_neg hbad] at hsc
            obtain ⟨bq, bt, q1, q2, hh⟩ : ∃ bq bt : Bool, ((i : Int) == (most : Int) - 1) = bq ∧ decide (c > top) = bt ∧ ((bq = true ∧ bt = false) ∨ bq = false) := by
              refine ⟨_, _, rfl, rfl, ?_⟩
              by_cases hq : i + 1 = most
              · exact .inl ⟨eqT (by omega), decide_eq_false (by omega)⟩
              · exact .inr (eqF (by omega))
            rcases hh with ⟨rfl, rfl⟩ | rfl
            all_goals
              by_cases h128 : 128 ≤ c
              · have q3 : decide (c < 128) = false := decide_eq_false (by omega)
                rw [if_pos h128] at hsc
                have him2 : i + 1 < most := by
                  by_cases hq : i + 1 = most
                  · exact absurd ⟨hq, by omega⟩ hbad
                  · omega
                repeat (first | (refine aw_seq ?_) | (refine aw_reg0 (by simp only [SZ, Nat.reduceAdd]; exact rfl) ?_) | (refine aw_reg (by decide +kernel) (by simp only [SZ, Nat.reduceAdd]; exact rfl) ?_) | (refine aw_regS (by decide +kernel) (by simp only [SZ, Nat.reduceAdd]; exact rfl) ?_) | (refine arl_nil ?_) | (refine aw_skip ?_) | (refine aw_block ?_) | (refine aw_exit ?_) | (refine aw_ret ?_) | (refine arl_cons rfl rfl (by simp +decide only [aop, abuiltin, aeval, aintBin, bin_int, aload_bump, SS, reduceIte, reduceCtorEq, f10, f2, hd2, f0, hln, f1, hwl, hd3, hwa, hp1, hp3, hwm, q1, f3, q2, q3, hwk]; exact rfl) (by first | rfl | with_reducible assumption) rfl ?_) | (refine arl_none rfl rfl (by simp +decide only [aop, abuiltin, aeval, aintBin, bin_int, aload_bump, SS, reduceIte, reduceCtorEq, f10, f2, hd2, f0, hln, f1, hwl, hd3, hwa, hp1, hp3, hwm, q1, f3, q2, q3, hwk]; exact rfl) rfl rfl ?_) | (refine arl_off rfl rfl ?_) | (refine aw_condT (by simp +decide only [aop, abuiltin, aeval, aintBin, bin_int, aload_bump, SS, reduceIte, reduceCtorEq, f10, f2, hd2, f0, hln, f1, hwl, hd3, hwa, hp1, hp3, hwm, q1, f3, q2, q3, hwk]; first | done | exact rfl) ?_) | (refine aw_condF (by simp +decide only [aop, abuiltin, aeval, aintBin, bin_int, aload_bump, SS, reduceIte, reduceCtorEq, f10, f2, hd2, f0, hln, f1, hwl, hd3, hwa, hp1, hp3, hwm, q1, f3, q2, q3, hwk]; first | done | exact rfl) ?_))
                exact ⟨b.length - (a + (i + 1)), by omega, hE.trans (by repeat (first | exact Keeps.refl _ _ | (refine Keeps.bumpR ?_ _))), i + 1, _, by omega, rfl, him2, f0, f1, f2, f3, rfl, hsc⟩
              · have q3 : decide (c < 128) = true := decide_eq_true (by omega)
                rw [if_neg h128] at hsc
                by_cases hz : c = 0
                · have q4 := eqT hz
                  by_cases hi0 : 0 < i
                  · have q5 : decide ((i : Int) > 0) = true := decide_eq_true (by omega)
                    rw [if_pos ⟨hz, hi0⟩] at hsc
                    rw [hsc]
                    repeat (first | (refine aw_seq ?_) | (refine aw_reg0 (by simp only [SZ, Nat.reduceAdd]; exact rfl) ?_) | (refine aw_reg (by decide +kernel) (by simp only [SZ, Nat.reduceAdd]; exact rfl) ?_) | (refine aw_regS (by decide +kernel) (by simp only [SZ, Nat.reduceAdd]; exact rfl) ?_) | (refine arl_nil ?_) | (refine aw_skip ?_) | (refine aw_block ?_) | (refine aw_exit ?_) | (refine aw_ret ?_) | (refine arl_cons rfl rfl (by simp +decide only [aop, abuiltin, aeval, aintBin, bin_int, aload_bump, SS, reduceIte, reduceCtorEq, f10, f2, hd2, f0, hln, f1, hwl, hd3, hwa, hp1, hp3, hwm, q1, f3, q2, q3, q4, q5]; exact rfl) (by first | rfl | with_reducible assumption) rfl ?_) | (refine arl_none rfl rfl (by simp +decide only [aop, abuiltin, aeval, aintBin, bin_int, aload_bump, SS, reduceIte, reduceCtorEq, f10, f2, hd2, f0, hln, f1, hwl, hd3, hwa, hp1, hp3, hwm, q1, f3, q2, q3, q4, q5]; exact rfl) rfl rfl ?_) | (refine arl_off rfl rfl ?_) | (refine aw_condT (by simp +decide only [aop, abuiltin, aeval, aintBin, bin_int, aload_bump, SS, reduceIte, reduceCtorEq, f10, f2, hd2, f0, hln, f1, hwl, hd3, hwa, hp1, hp3, hwm, q1, f3, q2, q3, q4, q5]; first | done | exact rfl) ?_) | (refine aw_condF (by simp +decide only [aop, abuiltin, aeval, aintBin, bin_int, aload_bump, SS, reduceIte, reduceCtorEq, f10, f2, hd2, f0, hln, f1, hwl, hd3, hwa, hp1, hp3, hwm, q1, f3, q2, q3, q4, q5]; first | done | exact rfl) ?_))
                    exact ⟨.inr rfl, _, rfl, hE.trans (by repeat (first | exact Keeps.refl _ _ | (refine Keeps.bumpR ?_ _))), rfl⟩
                  · have q5 : decide ((i : Int) > 0) = false := decide_eq_false (by omega)
                    rw [if_neg (by omega)] at hsc
                    rw [hsc]
                    repeat (first | (refine aw_seq ?_) | (refine aw_reg0 (by simp only [SZ, Nat.reduceAdd]; exact rfl) ?_) | (refine aw_reg (by decide +kernel) (by simp only [SZ, Nat.reduceAdd]; exact rfl) ?_) | (refine aw_regS (by decide +kernel) (by simp only [SZ, Nat.reduceAdd]; exact rfl) ?_) | (refine arl_nil ?_) | (refine aw_skip ?_) | (refine aw_block ?_) | (refine aw_exit ?_) | (refine aw_ret ?_) | (refine arl_cons rfl rfl (by simp +decide only [aop, abuiltin, aeval, aintBin, bin_int, aload_bump, SS, reduceIte, reduceCtorEq, f10, f2, hd2, f0, hln, f1, hwl, hd3, hwa, hp1, hp3, hwm, q1, f3, q2, q3, q4, q5]; exact rfl) (by first | rfl | with_reducible assumption) rfl ?_) | (refine arl_none rfl rfl (by simp +decide only [aop, abuiltin, aeval, aintBin, bin_int, aload_bump, SS, reduceIte, reduceCtorEq, f10, f2, hd2, f0, hln, f1, hwl, hd3, hwa, hp1, hp3, hwm, q1, f3, q2, q3, q4, q5]; exact rfl) rfl rfl ?_) | (refine arl_off rfl rfl ?_) | (refine aw_condT (by simp +decide only [aop, abuiltin, aeval, aintBin, bin_int, aload_bump, SS, reduceIte, reduceCtorEq, f10, f2, hd2, f0, hln, f1, hwl, hd3, hwa, hp1, hp3, hwm, q1, f3, q2, q3, q4, q5]; first | done | exact rfl) ?_) | (refine aw_condF (by simp +decide only [aop, abuiltin, aeval, aintBin, bin_int, aload_bump, SS, reduceIte, reduceCtorEq, f10, f2, hd2, f0, hln, f1, hwl, hd3, hwa, hp1, hp3, hwm, q1, f3, q2, q3, q4, q5]; first | done | exact rfl) ?_))
                    refine ⟨.inr rfl, _, rfl, hE.trans (by repeat (first | exact Keeps.refl _ _ | (refine Keeps.bumpR ?_ _))), ?_⟩
                    simp only [ends, if_true]
                    rw [show (a : Int) + ((i : Int) + 1) - 1 = ((a + i : Nat) : Int) by omega]
                    rfl
                · have q4 := eqF hz
                  rw [if_neg (by omega)] at hsc
                  rw [hsc]
                  repeat (first | (refine aw_seq ?_) | (refine aw_reg0 (by simp only [SZ, Nat.reduceAdd]; exact rfl) ?_) | (refine aw_reg (by decide +kernel) (by simp only [SZ, Nat.reduceAdd]; exact rfl) ?_) | (refine aw_regS (by decide +kernel) (by simp only [SZ, Nat.reduceAdd]; exact rfl) ?_) | (refine arl_nil ?_) | (refine aw_skip ?_) | (refine aw_block ?_) | (refine aw_exit ?_) | (refine aw_ret ?_) | (refine arl_cons rfl rfl (by simp +decide only [aop, abuiltin, aeval, aintBin, bin_int, aload_bump, SS, reduceIte, reduceCtorEq, f10, f2, hd2, f0, hln, f1, hwl, hd3, hwa, hp1, hp3, hwm, q1, f3, q2, q3, q4]; exact rfl) (by first | rfl | with_reducible assumption) rfl ?_) | (refine arl_none rfl rfl (by simp +decide only [aop, abuiltin, aeval, aintBin, bin_int, aload_bump, SS, reduceIte, reduceCtorEq, f10, f2, hd2, f0, hln, f1, hwl, hd3, hwa, hp1, hp3, hwm, q1, f3, q2, q3, q4]; exact rfl) rfl rfl ?_) | (refine arl_off rfl rfl ?_) | (refine aw_condT (by simp +decide only [aop, abuiltin, aeval, aintBin, bin_int, aload_bump, SS, reduceIte, reduceCtorEq, f10, f2, hd2, f0, hln, f1, hwl, hd3, hwa, hp1, hp3, hwm, q1, f3, q2, q3, q4]; first | done | exact rfl) ?_) | (refine aw_condF (by simp +decide only [aop, abuiltin, aeval, aintBin, bin_int, aload_bump, SS, reduceIte, reduceCtorEq, f10, f2, hd2, f0, hln, f1, hwl, hd3, hwa, hp1, hp3, hwm, q1, f3, q2, q3, q4]; first | done | exact rfl) ?_))
                  refine ⟨.inr rfl, _, rfl, hE.trans (by repeat (first | exact Keeps.refl _ _ | (refine Keeps.bumpR ?_ _))), ?_⟩
                  simp only [ends, if_true]
                  rw [show (a : Int) + ((i : Int) + 1) - 1 = ((a + i : Nat) : Int) by omega]
                  rfl
        · have hd3 : decide ((i : Int) ≥ (b.length : Int) - (a : Int)) = true := decide_eq_true (by omega)
          rw [List.drop_of_length_le (show b.length ≤ a + i by omega), scan] at hsc
          rw [hsc]
          repeat (first | (refine aw_seq ?_) | (refine aw_reg0 (by simp only [SZ, Nat.reduceAdd]; exact rfl) ?_) | (refine aw_reg (by decide +kernel) (by simp only [SZ, Nat.reduceAdd]; exact rfl) ?_) | (refine aw_regS (by decide +kernel) (by simp only [SZ, Nat.reduceAdd]; exact rfl) ?_) | (refine arl_nil ?_) | (refine aw_skip ?_) | (refine aw_block ?_) | (refine aw_exit ?_) | (refine aw_ret ?_) | (refine arl_cons rfl rfl (by simp +decide only [aop, abuiltin, aeval, aintBin, bin_int, aload_bump, SS, reduceIte, reduceCtorEq, f10, f2, hd2, f0, hln, f1, hwl, hd3]; exact rfl) (by first | rfl | with_reducible assumption) rfl ?_) | (refine arl_none rfl rfl (by simp +decide only [aop, abuiltin, aeval, aintBin, bin_int, aload_bump, SS, reduceIte, reduceCtorEq, f10, f2, hd2, f0, hln, f1, hwl, hd3]; exact rfl) rfl rfl ?_) | (refine arl_off rfl rfl ?_) | (refine aw_condT (by simp +decide only [aop, abuiltin, aeval, aintBin, bin_int, aload_bump, SS, reduceIte, reduceCtorEq, f10, f2, hd2, f0, hln, f1, hwl, hd3]; first | done | exact rfl) ?_) | (refine aw_condF (by simp +decide only [aop, abuiltin, aeval, aintBin, bin_int, aload_bump, SS, reduceIte, reduceCtorEq, f10, f2, hd2, f0, hln, f1, hwl, hd3]; first | done | exact rfl) ?_))
          exact ⟨.inr rfl, _, rfl, hE.trans (by repeat (first | exact Keeps.refl _ _ | (refine Keeps.bumpR ?_ _))), rfl⟩
      · exact ⟨(by repeat (first | exact Keeps.refl _ _ | (refine Keeps.bumpR ?_ _))), 0, 0, by omega, rfl, by omega, rfl, rfl, rfl, rfl, rfl, rfl⟩
theorem value_ok {st : St} (hw : WF st) {K : Nat → Prop} {v : AV} {b : List Int} (a n : Nat) (t : List Int) (h : RdB st K v b) (hl : b.length ≤ 140737488355) (hd : b.drop a = dig n ++ t) (ha : a ≤ b.length) (hn : n < 18446744073709551616) :
    ACalls Try.prog 50 [v, i64 a, i64 ((a : Int) + (dig n).length - 1)] st (fun r s => Ext st s ∧ r = u64 n) := by
  replace h := h.lt hw
  have hvs := h.solid
  have hlen : b.length - a = (dig n).length + t.length := by
    have := congrArg List.length hd
    simpa using this
  have hdl := dig_len10 hn
  refine acalls_of Try.func50 rfl (by kernel_rfl) (by simp [hvs]; exact ⟨rfl, rfl⟩) ?_
  repeat (first | (refine aw_seq ?_) | (refine aw_reg0 (by simp only [SZ, Nat.reduceAdd]; exact rfl) ?_) | (refine aw_reg (by decide +kernel) (by simp only [SZ, Nat.reduceAdd]; exact rfl) ?_) | (refine aw_regS (by decide +kernel) (by simp only [SZ, Nat.reduceAdd]; exact rfl) ?_) | (refine arl_nil ?_) | (refine aw_skip ?_) | (refine aw_block ?_) | (refine aw_exit ?_) | (refine aw_ret ?_) | (refine arl_cons rfl rfl (by simp +decide only [aop, abuiltin, aeval, aintBin, bin_int, aload_bump, SS, reduceIte, reduceCtorEq]; exact rfl) (by first | rfl | with_reducible assumption) rfl ?_) | (refine arl_none rfl rfl (by simp +decide only [aop, abuiltin, aeval, aintBin, bin_int, aload_bump, SS, reduceIte, reduceCtorEq]; exact rfl) rfl rfl ?_) | (refine arl_off rfl rfl ?_) | (refine aw_condT (by simp +decide only [aop, abuiltin, aeval, aintBin, bin_int, aload_bump, SS, reduceIte, reduceCtorEq]; first | done | exact rfl) ?_) | (refine aw_condF (by simp +decide only [aop, abuiltin, aeval, aintBin, bin_int, aload_bump, SS, reduceIte, reduceCtorEq]; first | done | exact rfl) ?_))
  refine aw_rounds_wf (fun m fr s => Ext st s ∧ ∃ (j : Nat), j ≤ (dig n).length ∧ m = j ∧ fr 0 = v ∧ fr 1 = i64 a ∧ fr 8 = i64 ((a : Int) + j - 1) ∧ fr 7 = u64 ((n / 128 ^ j : Nat) : Int)) ?_ (dig n).length _ _ (by repeat (first | assumption | (refine WF.bump ?_ _))) ?_
  · rintro j fr s hws ⟨hE, j', hj, rfl, f0, f1, f8, f7⟩
    have hEn := hE.n
    cases j with
    | zero =>
      have hd2 : decide ((a : Int) + ((0 : Nat) : Int) - 1 ≥ (a : Int)) = false := decide_eq_false (by omega)
      repeat (first | (refine aw_seq ?_) | (refine aw_reg0 (by simp only [SZ, Nat.reduceAdd]; exact rfl) ?_) | (refine aw_reg (by decide +kernel) (by simp only [SZ, Nat.reduceAdd]; exact rfl) ?_) | (refine aw_regS (by decide +kernel) (by simp only [SZ, Nat.reduceAdd]; exact rfl) ?_) | (refine arl_nil ?_) | (refine aw_skip ?_) | (refine aw_block ?_) | (refine aw_exit ?_) | (refine aw_ret ?_) | (refine arl_cons rfl rfl (by simp +decide only [aop, abuiltin, aeval, aintBin, bin_int, aload_bump, SS, reduceIte, reduceCtorEq, f8, f1, hd2, f7]; exact rfl) (by first | rfl | with_reducible assumption) rfl ?_) | (refine arl_none rfl rfl (by simp +decide only [aop, abuiltin, aeval, aintBin, bin_int, aload_bump, SS, reduceIte, reduceCtorEq, f8, f1, hd2, f7]; exact rfl) rfl rfl ?_) | (refine arl_off rfl rfl ?_) | (refine aw_condT (by simp +decide only [aop, abuiltin, aeval, aintBin, bin_int, aload_bump, SS, reduceIte, reduceCtorEq, f8, f1, hd2, f7]; first | done | exact rfl) ?_) | (refine aw_condF (by simp +decide only [aop, abuiltin, aeval, aintBin, bin_int, aload_bump, SS, reduceIte, reduceCtorEq, f8, f1, hd2, f7]; first | done | exact rfl) ?_))
      refine ⟨.inr rfl, _, rfl, hE.trans (by repeat (first | exact Keeps.refl _ _ | (refine Keeps.bumpR ?_ _))), ?_⟩
      show AV.pl _ = _
      rw [Nat.pow_zero, Nat.div_one]
    | succ j =>
      rw [show (a : Int) + ((j + 1 : Nat) : Int) - 1 = ((a + j : Nat) : Int) by omega] at f8
      have hd2 : decide (((a + j : Nat) : Int) ≥ (a : Int)) = true := decide_eq_true (by omega)
      have hx : a + j < b.length := by omega
      obtain ⟨p, hp1, hp2, hp3⟩ := (h.up hE).atN .i64 (a + j) hx
      have e : b[a + j] = (dig n)[j] := by
        have h1 : (b.drop a)[j]? = some b[a + j] := by rw [List.getElem?_drop, List.getElem?_eq_getElem hx]
        rw [hd, List.getElem?_append_left (by omega), List.getElem?_eq_getElem (by omega)] at h1
        exact (Option.some.inj h1).symm
      have hd0 : 0 ≤ (dig n)[j] := (dig_bytes10 hn _ (List.getElem_mem (by omega))).1
      rw [e] at hp3
      have hdg := dig_get 9 n j (by omega) (by omega)
      have e1 : (dig n)[j].tmod 128 = ((n / 128 ^ j % 128 : Nat) : Int) := by rw [Int.tmod_eq_emod_of_nonneg hd0, hdg]
      have hq : n / 128 ^ (j + 1) = n / 128 ^ j / 128 := by rw [Nat.pow_succ, Nat.div_div_eq_div_mul]
      have hb2 : n / 128 ^ j ≤ n := Nat.div_le_self _ _
      rw [hq] at f7
      obtain ⟨q, hqq⟩ : ∃ q, n / 128 ^ j = q := ⟨_, rfl⟩
      rw [hqq] at f7 hb2 hdg e1
      have e2 : IntKind.u64.wrap (((q / 128 : Nat) : Int) * 128) = ((q / 128 : Nat) : Int) * 128 := wr64 (by omega) (by omega)
      have e3 : IntKind.u64.wrap ((q % 128 : Nat) : Int) = ((q % 128 : Nat) : Int) := wr64 (by omega) (by omega)
      have e4 : IntKind.u64.wrap (((q / 128 : Nat) : Int) * 128 + ((q % 128 : Nat) : Int)) = (q : Int) := by rw [wr64 (by omega) (by omega)]; omega
      have e5 : IntKind.i64.wrap (((a + j : Nat) : Int) - 1) = (a : Int) + (j : Int) - 1 := by rw [wrap64_of (by omega) (by omega)]; omega
      repeat (first | (refine aw_seq ?_) | (refine aw_reg0 (by simp only [SZ, Nat.reduceAdd]; exact rfl) ?_) | (refine aw_reg (by decide +kernel) (by simp only [SZ, Nat.reduceAdd]; exact rfl) ?_) | (refine aw_regS (by decide +kernel) (by simp only [SZ, Nat.reduceAdd]; exact rfl) ?_) | (refine arl_nil ?_) | (refine aw_skip ?_) | (refine aw_block ?_) | (refine aw_exit ?_) | (refine aw_ret ?_) | (refine arl_cons rfl rfl (by simp +decide only [aop, abuiltin, aeval, aintBin, bin_int, aload_bump, SS, reduceIte, reduceCtorEq, f8, f1, hd2, f7, e2, f0, hp1, hp3, e1, conv_int Try.underlying5 Try.underlying70, e3, e4, e5]; exact rfl) (by first | rfl | with_reducible assumption) rfl ?_) | (refine arl_none rfl rfl (by simp +decide only [aop, abuiltin, aeval, aintBin, bin_int, aload_bump, SS, reduceIte, reduceCtorEq, f8, f1, hd2, f7, e2, f0, hp1, hp3, e1, conv_int Try.underlying5 Try.underlying70, e3, e4, e5]; exact rfl) rfl rfl ?_) | (refine arl_off rfl rfl ?_) | (refine aw_condT (by simp +decide only [aop, abuiltin, aeval, aintBin, bin_int, aload_bump, SS, reduceIte, reduceCtorEq, f8, f1, hd2, f7, e2, f0, hp1, hp3, e1, conv_int Try.underlying5 Try.underlying70, e3, e4, e5]; first | done | exact rfl) ?_) | (refine aw_condF (by simp +decide only [aop, abuiltin, aeval, aintBin, bin_int, aload_bump, SS, reduceIte, reduceCtorEq, f8, f1, hd2, f7, e2, f0, hp1, hp3, e1, conv_int Try.underlying5 Try.underlying70, e3, e4, e5]; first | done | exact rfl) ?_))
      exact ⟨j, by omega, hE.trans (by repeat (first | exact Keeps.refl _ _ | (refine Keeps.bumpR ?_ _))), j, by omega, rfl, f0, f1, rfl, by rw [hqq]; rfl⟩
  · refine ⟨(by repeat (first | exact Keeps.refl _ _ | (refine Keeps.bumpR ?_ _))), (dig n).length, Nat.le_refl _, rfl, rfl, rfl, rfl, ?_⟩
    rw [Nat.div_eq_of_lt (dig_lt n 9 (by omega))]
    rfl
theorem rGet_ok {st : St} (hw : WF st) {K : Nat → Prop} {v : AV} {b : List Int} (at_ : Int) (h : RdB st K v b) (hl : b.length ≤ 140737488355) (hby : byts b) :
    ACalls Try.prog 35 [v, i64 at_] st (fun r s => Ext st s ∧ r = getV b at_) := by
  replace h := h.lt hw
  have hvs := h.solid
  refine acalls_of Try.func35 rfl (by kernel_rfl) (by simp [hvs]; rfl) ?_
  repeat (first | (refine aw_seq ?_) | (refine aw_reg0 (by simp only [SZ, Nat.reduceAdd]; exact rfl) ?_) | (refine aw_reg (by decide +kernel) (by simp only [SZ, Nat.reduceAdd]; exact rfl) ?_) | (refine aw_regS (by decide +kernel) (by simp only [SZ, Nat.reduceAdd]; exact rfl) ?_) | (refine arl_nil ?_) | (refine aw_skip ?_) | (refine aw_block ?_) | (refine aw_exit ?_) | (refine aw_ret ?_) | (refine arl_cons rfl rfl (by simp +decide only [aop, abuiltin, aeval, aintBin, bin_int, aload_bump, SS, reduceIte, reduceCtorEq]; exact rfl) (by first | rfl | with_reducible assumption) rfl ?_) | (refine arl_none rfl rfl (by simp +decide only [aop, abuiltin, aeval, aintBin, bin_int, aload_bump, SS, reduceIte, reduceCtorEq]; exact rfl) rfl rfl ?_) | (refine arl_off rfl rfl ?_) | (refine aw_condT (by simp +decide only [aop, abuiltin, aeval, aintBin, bin_int, aload_bump, SS, reduceIte, reduceCtorEq]; first | done | exact rfl) ?_) | (refine aw_condF (by simp +decide only [aop, abuiltin, aeval, aintBin, bin_int, aload_bump, SS, reduceIte, reduceCtorEq]; first | done | exact rfl) ?_))
  refine arl_call rfl rfl rfl rfl rfl rfl ((rget_ok (by repeat (first | assumption | (refine WF.bump ?_ _))) at_ 10 1 (h.up (by repeat (first | exact Keeps.refl _ _ | (refine Keeps.bumpR ?_ _)))) hl hby (by decide) (by decide) (by decide) (by decide)).wf (by repeat (first | assumption | (refine WF.bump ?_ _) | (refine WF.put ?_ (by simp only [n_bump, n_put, n_touch, n_kill] at *; omega) (by simp only [n_bump, n_put, n_touch, n_kill] at *; omega)))) |>.mono ?_)
  rintro r s1 ⟨hw1, hn1, hE1, rfl⟩
  refine ⟨by first | rfl | with_reducible assumption, ?_⟩
  replace hE1 : Ext st s1 := Keeps.trans (by repeat (first | assumption | exact Keeps.refl _ _ | (refine Keeps.bumpR ?_ _) | (refine Keeps.put ?_ (by assumption) (by simp only [n_bump, n_put, n_touch, n_kill] at *; omega)))) hE1
  have hN1 := hE1.n
  by_cases ho : at_ < 0 ∨ (b.length : Int) < at_
  · have e : getV b at_ = .tup [i64 0, i64 0, i64 3] := by unfold getV getS; rw [if_pos ho]; rfl
    rw [if_pos ho, e]
    repeat (first | (refine aw_seq ?_) | (refine aw_reg0 (by simp only [SZ, Nat.reduceAdd]; exact rfl) ?_) | (refine aw_reg (by decide +kernel) (by simp only [SZ, Nat.reduceAdd]; exact rfl) ?_) | (refine aw_regS (by decide +kernel) (by simp only [SZ, Nat.reduceAdd]; exact rfl) ?_) | (refine arl_nil ?_) | (refine aw_skip ?_) | (refine aw_block ?_) | (refine aw_exit ?_) | (refine aw_ret ?_) | (refine arl_cons rfl rfl (by simp +decide only [aop, abuiltin, aeval, aintBin, bin_int, aload_bump, SS, reduceIte, reduceCtorEq]; exact rfl) (by first | rfl | with_reducible assumption) rfl ?_) | (refine arl_none rfl rfl (by simp +decide only [aop, abuiltin, aeval, aintBin, bin_int, aload_bump, SS, reduceIte, reduceCtorEq]; exact rfl) rfl rfl ?_) | (refine arl_off rfl rfl ?_) | (refine aw_condT (by simp +decide only [aop, abuiltin, aeval, aintBin, bin_int, aload_bump, SS, reduceIte, reduceCtorEq]; first | done | exact rfl) ?_) | (refine aw_condF (by simp +decide only [aop, abuiltin, aeval, aintBin, bin_int, aload_bump, SS, reduceIte, reduceCtorEq]; first | done | exact rfl) ?_))
    exact ⟨.inr rfl, _, rfl, hE1.trans (by repeat (first | exact Keeps.refl _ _ | (refine Keeps.bumpR ?_ _))), rfl⟩
  · rw [if_neg ho]
    obtain ⟨a, rfl⟩ : ∃ a : Nat, at_ = a := ⟨at_.toNat, by omega⟩
    rw [Int.toNat_natCast]
    by_cases he : (scan 10 1 0 0 (b.drop a)).2.2 = 0
    · obtain ⟨n, t, hd, hv, _⟩ := scan_only 10 1 (by decide) (b.drop a) 9 0 0 (bytes_drop hby _) (by omega) he
      have hs := scan_dig 10 1 (by decide) t 9 n 0 0 (by omega) hv (Or.inr rfl)
      have hlen : b.length - a = (dig n).length + t.length := by
        have := congrArg List.length hd
        simpa using this
      have h1 := dig_len10 (u := n) (by omega)
      have ee : ends (a : Int) (scan 10 1 0 0 (b.drop a)) = ((a : Int) + (dig n).length - 1, 0) := by rw [hd]; exact (congrArg (ends _) hs).trans (by simp [ends])
      have ea : getV b a = .tup [i64 (zag n), i64 ((a : Int) + (dig n).length), i64 0] := by
        have e0 : getS 10 1 b a = ((n : Int), (a : Int) + (dig n).length, 0) := by
          unfold getS
          rw [if_neg ho, Int.toNat_natCast, hd]
          exact (congrArg (answer _) hs).trans (by simp [answer])
        unfold getV
        rw [e0]
      have hwn : IntKind.i64.wrap ((a : Int) + (dig n).length - 1 + 1) = (a : Int) + (dig n).length := by rw [wrap64_of (by omega) (by omega)]; omega
      rw [ee, ea]
      repeat (first | (refine aw_seq ?_) | (refine aw_reg0 (by simp only [SZ, Nat.reduceAdd]; exact rfl) ?_) | (refine aw_reg (by decide +kernel) (by simp only [SZ, Nat.reduceAdd]; exact rfl) ?_) | (refine aw_regS (by decide +kernel) (by simp only [SZ, Nat.reduceAdd]; exact rfl) ?_) | (refine arl_nil ?_) | (refine aw_skip ?_) | (refine aw_block ?_) | (refine aw_exit ?_) | (refine aw_ret ?_) | (refine arl_cons rfl rfl (by simp +decide only [aop, abuiltin, aeval, aintBin, bin_int, aload_bump, SS, reduceIte, reduceCtorEq]; exact rfl) (by first | rfl | with_reducible assumption) rfl ?_) | (refine arl_none rfl rfl (by simp +decide only [aop, abuiltin, aeval, aintBin, bin_int, aload_bump, SS, reduceIte, reduceCtorEq]; exact rfl) rfl rfl ?_) | (refine arl_off rfl rfl ?_) | (refine aw_condT (by simp +decide only [aop, abuiltin, aeval, aintBin, bin_int, aload_bump, SS, reduceIte, reduceCtorEq]; first | done | exact rfl) ?_) | (refine aw_condF (by simp +decide only [aop, abuiltin, aeval, aintBin, bin_int, aload_bump, SS, reduceIte, reduceCtorEq]; first | done | exact rfl) ?_))
      refine arl_call rfl rfl rfl rfl rfl rfl ((value_ok (by repeat (first | assumption | (refine WF.bump ?_ _))) a n t ((h.up hE1).up (by repeat (first | exact Keeps.refl _ _ | (refine Keeps.bumpR ?_ _)))) hl hd (by omega) (by omega)).wf (by repeat (first | assumption | (refine WF.bump ?_ _) | (refine WF.put ?_ (by simp only [n_bump, n_put, n_touch, n_kill] at *; omega) (by simp only [n_bump, n_put, n_touch, n_kill] at *; omega)))) |>.mono ?_)
      rintro r s2 ⟨hw2, hn2, hE2, rfl⟩
      refine ⟨by first | rfl | with_reducible assumption, ?_⟩
      replace hE2 : Ext s1 s2 := Keeps.trans (by repeat (first | assumption | exact Keeps.refl _ _ | (refine Keeps.bumpR ?_ _) | (refine Keeps.put ?_ (by assumption) (by simp only [n_bump, n_put, n_touch, n_kill] at *; omega)))) hE2
      have hN2 := hE2.n
      repeat (first | (refine aw_seq ?_) | (refine aw_reg0 (by simp only [SZ, Nat.reduceAdd]; exact rfl) ?_) | (refine aw_reg (by decide +kernel) (by simp only [SZ, Nat.reduceAdd]; exact rfl) ?_) | (refine aw_regS (by decide +kernel) (by simp only [SZ, Nat.reduceAdd]; exact rfl) ?_) | (refine arl_nil ?_) | (refine aw_skip ?_) | (refine aw_block ?_) | (refine aw_exit ?_) | (refine aw_ret ?_) | (refine arl_cons rfl rfl (by simp +decide only [aop, abuiltin, aeval, aintBin, bin_int, aload_bump, SS, reduceIte, reduceCtorEq]; exact rfl) (by first | rfl | with_reducible assumption) rfl ?_) | (refine arl_none rfl rfl (by simp +decide only [aop, abuiltin, aeval, aintBin, bin_int, aload_bump, SS, reduceIte, reduceCtorEq]; exact rfl) rfl rfl ?_) | (refine arl_off rfl rfl ?_) | (refine aw_condT (by simp +decide only [aop, abuiltin, aeval, aintBin, bin_int, aload_bump, SS, reduceIte, reduceCtorEq]; first | done | exact rfl) ?_) | (refine aw_condF (by simp +decide only [aop, abuiltin, aeval, aintBin, bin_int, aload_bump, SS, reduceIte, reduceCtorEq]; first | done | exact rfl) ?_))
      refine arl_call rfl rfl rfl rfl rfl rfl ((rZag_ok (by repeat (first | assumption | (refine WF.bump ?_ _))) (u := (n : Int)) (by omega) (by omega)).wf (by repeat (first | assumption | (refine WF.bump ?_ _) | (refine WF.put ?_ (by simp only [n_bump, n_put, n_touch, n_kill] at *; omega) (by simp only [n_bump, n_put, n_touch, n_kill] at *; omega)))) |>.mono ?_)
      rintro r s3 ⟨hw3, hn3, hE3, rfl⟩
      refine ⟨by first | rfl | with_reducible assumption, ?_⟩
      replace hE3 : Ext s2 s3 := Keeps.trans (by repeat (first | assumption | exact Keeps.refl _ _ | (refine Keeps.bumpR ?_ _) | (refine Keeps.put ?_ (by assumption) (by simp only [n_bump, n_put, n_touch, n_kill] at *; omega)))) hE3
      have hN3 := hE3.n
      repeat (first | (refine aw_seq ?_) | (refine aw_reg0 (by simp only [SZ, Nat.reduceAdd]; exact rfl) ?_) | (refine aw_reg (by decide +kernel) (by simp only [SZ, Nat.reduceAdd]; exact rfl) ?_) | (refine aw_regS (by decide +kernel) (by simp only [SZ, Nat.reduceAdd]; exact rfl) ?_) | (refine arl_nil ?_) | (refine aw_skip ?_) | (refine aw_block ?_) | (refine aw_exit ?_) | (refine aw_ret ?_) | (refine arl_cons rfl rfl (by simp +decide only [aop, abuiltin, aeval, aintBin, bin_int, aload_bump, SS, reduceIte, reduceCtorEq, hwn]; exact rfl) (by first | rfl | with_reducible assumption) rfl ?_) | (refine arl_none rfl rfl (by simp +decide only [aop, abuiltin, aeval, aintBin, bin_int, aload_bump, SS, reduceIte, reduceCtorEq, hwn]; exact rfl) rfl rfl ?_) | (refine arl_off rfl rfl ?_) | (refine aw_condT (by simp +decide only [aop, abuiltin, aeval, aintBin, bin_int, aload_bump, SS, reduceIte, reduceCtorEq, hwn]; first | done | exact rfl) ?_) | (refine aw_condF (by simp +decide only [aop, abuiltin, aeval, aintBin, bin_int, aload_bump, SS, reduceIte, reduceCtorEq, hwn]; first | done | exact rfl) ?_))
      exact ⟨.inr rfl, _, rfl, ((hE1.trans hE2).trans hE3).trans (by repeat (first | exact Keeps.refl _ _ | (refine Keeps.bumpR ?_ _))), rfl⟩
    · obtain ⟨e, hse⟩ : ∃ e, (scan 10 1 0 0 (b.drop a)).2.2 = e := ⟨_, rfl⟩
      rw [hse] at he
      have ee : ends (a : Int) (scan 10 1 0 0 (b.drop a)) = (0, e) := by simp [ends, hse, he]
      have ea : getV b a = .tup [i64 0, i64 0, i64 e] := by
        have e0 : getS 10 1 b a = (0, 0, e) := by
          unfold getS
          rw [if_neg ho, Int.toNat_natCast]
          simp [answer, hse, he]
        unfold getV
        rw [e0]
        rfl
      have q1 := neT he
      rw [ee, ea]
      repeat (first | (refine aw_seq ?_) | (refine aw_reg0 (by simp only [SZ, Nat.reduceAdd]; exact rfl) ?_) | (refine aw_reg (by decide +kernel) (by simp only [SZ, Nat.reduceAdd]; exact rfl) ?_) | (refine aw_regS (by decide +kernel) (by simp only [SZ, Nat.reduceAdd]; exact rfl) ?_) | (refine arl_nil ?_) | (refine aw_skip ?_) | (refine aw_block ?_) | (refine aw_exit ?_) | (refine aw_ret ?_) | (refine arl_cons rfl rfl (by simp +decide only [aop, abuiltin, aeval, aintBin, bin_int, aload_bump, SS, reduceIte, reduceCtorEq, q1]; exact rfl) (by first | rfl | with_reducible assumption) rfl ?_) | (refine arl_none rfl rfl (by simp +decide only [aop, abuiltin, aeval, aintBin, bin_int, aload_bump, SS, reduceIte, reduceCtorEq, q1]; exact rfl) rfl rfl ?_) | (refine arl_off rfl rfl ?_) | (refine aw_condT (by simp +decide only [aop, abuiltin, aeval, aintBin, bin_int, aload_bump, SS, reduceIte, reduceCtorEq, q1]; first | done | exact rfl) ?_) | (refine aw_condF (by simp +decide only [aop, abuiltin, aeval, aintBin, bin_int, aload_bump, SS, reduceIte, reduceCtorEq, q1]; first | done | exact rfl) ?_))
      exact ⟨.inr rfl, _, rfl, hE1.trans (by repeat (first | exact Keeps.refl _ _ | (refine Keeps.bumpR ?_ _))), rfl⟩
end Go.Proofs.Ytoohookgimkhbaa.Ra
