/- vint: read, Get; leatref02: get, value, Get. -/
import Derived.Test.YthjfncppiffnmaaDoorVb
namespace Go.Proofs.YthjfncppiffnmaaDoor.Ra
open Go Go.RowKit Vn
set_option linter.unusedVariables false
set_option linter.unusedSimpArgs false
set_option maxRecDepth 10000
theorem eqT {a b : Int} (h : a = b) : (a == b) = true := by simp [h]
theorem eqF {a b : Int} (h : a ≠ b) : (a == b) = false := by simp [h]
theorem neT {a b : Int} (h : a ≠ b) : (a != b) = true := by simp [h]
theorem neF {a b : Int} (h : a = b) : (a != b) = false := by simp [h]
set_option maxHeartbeats 1000000 in
theorem vread_ok {st : St} (hw : WF st) {K : Nat → Prop} {v : AV} {b : List Int} (at_ : Int) (most : Nat) (top : Int) (h : RdB st K v b) (hl : b.length ≤ 140737488355) (hby : byts b) (hm : 2 ≤ most) (hm10 : most ≤ 10) (htop : 0 ≤ top) (htop2 : top < 128) (h10 : most = 10 → top = 1) :
    ACalls Tryd.prog 17 [v, i64 at_, i64 most, .pl (.int .u8 top)] st (fun r s => Ext st s ∧ r = .tup [u64 (getS most top b at_).1, i64 (getS most top b at_).2.1, i64 (getS most top b at_).2.2]) := by
  replace h := h.lt hw
  have hvs := h.solid
  have hln := h.len
  refine acalls_of Tryd.func17 rfl (by kernel_rfl) (by simp [hvs]; exact ⟨rfl, rfl, rfl⟩) ?_
  by_cases h0 : at_ < 0
  · have hd := decide_eq_true h0
    have e : getS most top b at_ = (0, 0, 3) := by unfold getS; rw [if_pos (.inl h0)]
    rw [e]
    repeat (first | (refine aw_seq ?_) | (refine aw_reg0 (by simp only [SZ, Nat.reduceAdd]; exact rfl) ?_) | (refine aw_reg (by decide +kernel) (by simp only [SZ, Nat.reduceAdd]; exact rfl) ?_) | (refine aw_regS (by decide +kernel) (by simp only [SZ, Nat.reduceAdd]; exact rfl) ?_) | (refine arl_nil ?_) | (refine aw_skip ?_) | (refine aw_block ?_) | (refine aw_exit ?_) | (refine aw_ret ?_) | (refine arl_cons rfl rfl (by simp +decide only [aop, abuiltin, aeval, aintBin, bin_int, aload_bump, SS, reduceIte, reduceCtorEq, hd]; exact rfl) (by first | rfl | with_reducible assumption) rfl ?_) | (refine arl_none rfl rfl (by simp +decide only [aop, abuiltin, aeval, aintBin, bin_int, aload_bump, SS, reduceIte, reduceCtorEq, hd]; exact rfl) rfl rfl ?_) | (refine arl_off rfl rfl ?_) | (refine aw_condT (by simp +decide only [aop, abuiltin, aeval, aintBin, bin_int, aload_bump, SS, reduceIte, reduceCtorEq, hd]; first | done | exact rfl) ?_) | (refine aw_condF (by simp +decide only [aop, abuiltin, aeval, aintBin, bin_int, aload_bump, SS, reduceIte, reduceCtorEq, hd]; first | done | exact rfl) ?_))
    exact ⟨.inr rfl, _, rfl, (by repeat (first | exact Keeps.refl _ _ | (refine Keeps.bumpR ?_ _))), rfl⟩
  · have hd := decide_eq_false h0
    by_cases h1 : at_ > (b.length : Int)
    · have hd1 := decide_eq_true h1
      have e : getS most top b at_ = (0, 0, 3) := by unfold getS; rw [if_pos (.inr h1)]
      rw [e]
      repeat (first | (refine aw_seq ?_) | (refine aw_reg0 (by simp only [SZ, Nat.reduceAdd]; exact rfl) ?_) | (refine aw_reg (by decide +kernel) (by simp only [SZ, Nat.reduceAdd]; exact rfl) ?_) | (refine aw_regS (by decide +kernel) (by simp only [SZ, Nat.reduceAdd]; exact rfl) ?_) | (refine arl_nil ?_) | (refine aw_skip ?_) | (refine aw_block ?_) | (refine aw_exit ?_) | (refine aw_ret ?_) | (refine arl_cons rfl rfl (by simp +decide only [aop, abuiltin, aeval, aintBin, bin_int, aload_bump, SS, reduceIte, reduceCtorEq, hd, hln, hd1]; exact rfl) (by first | rfl | with_reducible assumption) rfl ?_) | (refine arl_none rfl rfl (by simp +decide only [aop, abuiltin, aeval, aintBin, bin_int, aload_bump, SS, reduceIte, reduceCtorEq, hd, hln, hd1]; exact rfl) rfl rfl ?_) | (refine arl_off rfl rfl ?_) | (refine aw_condT (by simp +decide only [aop, abuiltin, aeval, aintBin, bin_int, aload_bump, SS, reduceIte, reduceCtorEq, hd, hln, hd1]; first | done | exact rfl) ?_) | (refine aw_condF (by simp +decide only [aop, abuiltin, aeval, aintBin, bin_int, aload_bump, SS, reduceIte, reduceCtorEq, hd, hln, hd1]; first | done | exact rfl) ?_))
      exact ⟨.inr rfl, _, rfl, (by repeat (first | exact Keeps.refl _ _ | (refine Keeps.bumpR ?_ _))), rfl⟩
    · have hd1 := decide_eq_false h1
      obtain ⟨a, rfl⟩ : ∃ a : Nat, at_ = a := ⟨at_.toNat, by omega⟩
      have e : getS most top b a = answer a (scan most top 0 0 (b.drop a)) := by unfold getS; rw [if_neg (by omega), Int.toNat_natCast]
      rw [e]
      obtain ⟨v', hcut, hvs', hR⟩ := h.cuts (some (i64 a)) none a b.length (.inl rfl) (.inr ⟨rfl, rfl⟩) (by omega) (Nat.le_refl _)
      rw [List.take_of_length_le (by rw [List.length_drop]; exact Nat.le_refl _)] at hR
      have hxl : (b.drop a).length = b.length - a := List.length_drop
      have hxb : byts (b.drop a) := bytes_drop hby a
      generalize b.drop a = xs at hR hxl hxb ⊢
      have hln2 := hR.len
      repeat (first | (refine aw_seq ?_) | (refine aw_reg0 (by simp only [SZ, Nat.reduceAdd]; exact rfl) ?_) | (refine aw_reg (by decide +kernel) (by simp only [SZ, Nat.reduceAdd]; exact rfl) ?_) | (refine aw_regS (by decide +kernel) (by simp only [SZ, Nat.reduceAdd]; exact rfl) ?_) | (refine arl_nil ?_) | (refine aw_skip ?_) | (refine aw_block ?_) | (refine aw_exit ?_) | (refine aw_ret ?_) | (refine arl_cons rfl rfl (by simp +decide only [aop, abuiltin, aeval, aintBin, bin_int, aload_bump, SS, reduceIte, reduceCtorEq, hd, hln, hd1, hcut, hln2]; exact rfl) (by first | rfl | with_reducible assumption) rfl ?_) | (refine arl_none rfl rfl (by simp +decide only [aop, abuiltin, aeval, aintBin, bin_int, aload_bump, SS, reduceIte, reduceCtorEq, hd, hln, hd1, hcut, hln2]; exact rfl) rfl rfl ?_) | (refine arl_off rfl rfl ?_) | (refine aw_condT (by simp +decide only [aop, abuiltin, aeval, aintBin, bin_int, aload_bump, SS, reduceIte, reduceCtorEq, hd, hln, hd1, hcut, hln2]; first | done | exact rfl) ?_) | (refine aw_condF (by simp +decide only [aop, abuiltin, aeval, aintBin, bin_int, aload_bump, SS, reduceIte, reduceCtorEq, hd, hln, hd1, hcut, hln2]; first | done | exact rfl) ?_))
      refine aw_rounds_wf (fun m fr s => Ext st s ∧ ∃ (i : Nat) (u : Int), i ≤ xs.length ∧ m = xs.length - i ∧ i < most ∧ 0 ≤ u ∧ u < 128 ^ i ∧ fr 1 = i64 a ∧ fr 2 = i64 most ∧ fr 3 = u8 top ∧ fr 24 = v' ∧ fr 25 = i64 xs.length ∧ fr 26 = i64 i ∧ fr 11 = u64 u ∧ scan most top 0 0 xs = scan most top i u (xs.drop i)) ?_ xs.length _ _ (by repeat (first | assumption | (refine WF.bump ?_ _))) ?_
      · rintro m fr s hws ⟨hE, i, u, hi, rfl, him, hu0, hu, f1, f2, f3, f24, f25, f26, f11, hsc⟩
        have hEn := hE.n
        by_cases hlt : i < xs.length
        · have hd2 : decide ((i : Int) < (xs.length : Int)) = true := decide_eq_true (by omega)
          obtain ⟨p, hp1, hp2, hp3⟩ := (hR.up hE).atN .i64 i hlt
          have hc := hxb xs[i] (List.getElem_mem hlt)
          rw [List.drop_eq_getElem_cons hlt, scan] at hsc
          generalize xs[i] = c at *
          have hwm : IntKind.i64.wrap ((most : Int) - 1) = (most : Int) - 1 := wrap64_of (by omega) (by omega)
          have hwk := wrap_succ (k := i) (by omega)
          by_cases hbad : i + 1 = most ∧ top < c
          · have q1 := eqT (a := (i : Int)) (b := (most : Int) - 1) (by omega)
            have q2 : decide (c > top) = true := decide_eq_true hbad.2
            rw [if_pos hbad] at hsc
            rw [hsc]
            repeat (first | (refine aw_seq ?_) | (refine aw_reg0 (by simp only [SZ, Nat.reduceAdd]; exact rfl) ?_) | (refine aw_reg (by decide +kernel) (by simp only [SZ, Nat.reduceAdd]; exact rfl) ?_) | (refine aw_regS (by decide +kernel) (by simp only [SZ, Nat.reduceAdd]; exact rfl) ?_) | (refine arl_nil ?_) | (refine aw_skip ?_) | (refine aw_block ?_) | (refine aw_exit ?_) | (refine aw_ret ?_) | (refine arl_cons rfl rfl (by simp +decide only [aop, abuiltin, aeval, aintBin, bin_int, aload_bump, SS, reduceIte, reduceCtorEq, f25, f26, hd2, f24, hp1, hp3, f2, hwm, q1, f3, q2]; exact rfl) (by first | rfl | with_reducible assumption) rfl ?_) | (refine arl_none rfl rfl (by simp +decide only [aop, abuiltin, aeval, aintBin, bin_int, aload_bump, SS, reduceIte, reduceCtorEq, f25, f26, hd2, f24, hp1, hp3, f2, hwm, q1, f3, q2]; exact rfl) rfl rfl ?_) | (refine arl_off rfl rfl ?_) | (refine aw_condT (by simp +decide only [aop, abuiltin, aeval, aintBin, bin_int, aload_bump, SS, reduceIte, reduceCtorEq, f25, f26, hd2, f24, hp1, hp3, f2, hwm, q1, f3, q2]; first | done | exact rfl) ?_) | (refine aw_condF (by simp +decide only [aop, abuiltin, aeval, aintBin, bin_int, aload_bump, SS, reduceIte, reduceCtorEq, f25, f26, hd2, f24, hp1, hp3, f2, hwm, q1, f3, q2]; first | done | exact rfl) ?_))
            exact ⟨.inr rfl, _, rfl, hE.trans (by repeat (first | exact Keeps.refl _ _ | (refine Keeps.bumpR ?_ _))), rfl⟩
          · rw [if_neg hbad] at hsc
            have h9 : i = 9 → c % 128 ≤ 1 := by intro h; have := h10 (by omega); omega
            have hor := or_shl (i := i) (by omega) hu0 hu hc.1 hc.2 h9
            have hps := pow_step i u c hu0 hu
            have hw7 : IntKind.i64.wrap (7 * (i : Int)) = 7 * (i : Int) := wrap64_of (by omega) (by omega)
            have hneg : ((7 * (i : Int)) < 0) = False := eq_false (by omega)
            have hwa : IntKind.i64.wrap ((a : Int) + (i : Int)) = (a : Int) + i := wrap64_of (by omega) (by omega)
            have hwb : IntKind.i64.wrap ((a : Int) + (i : Int) + 1) = (a : Int) + ((i : Int) + 1) := by rw [wrap64_of (by omega) (by omega)]; omega
            obtain ⟨bq, bt, q1, q2, hh⟩ : ∃ bq bt : Bool, ((i : Int) == (most : Int) - 1) = bq ∧ decide (c > top) = bt ∧ ((bq = true ∧ bt = false) ∨ bq = false) := by
              refine ⟨_, _, rfl, rfl, ?_⟩
              by_cases hq : i + 1 = most
              · exact .inl ⟨eqT (by omega), decide_eq_false (by omega)⟩
              · exact .inr (eqF (by omega))
            rcases hh with ⟨rfl, rfl⟩ | rfl
            all_goals
              by_cases h128 : 128 ≤ c
              · have q3 : decide (c ≥ 128) = true := decide_eq_true h128
                rw [if_pos h128] at hsc
                have him2 : i + 1 < most := by
                  by_cases hq : i + 1 = most
                  · exact absurd ⟨hq, by omega⟩ hbad
                  · omega
                repeat (first | (refine aw_seq ?_) | (refine aw_reg0 (by simp only [SZ, Nat.reduceAdd]; exact rfl) ?_) | (refine aw_reg (by decide +kernel) (by simp only [SZ, Nat.reduceAdd]; exact rfl) ?_) | (refine aw_regS (by decide +kernel) (by simp only [SZ, Nat.reduceAdd]; exact rfl) ?_) | (refine arl_nil ?_) | (refine aw_skip ?_) | (refine aw_block ?_) | (refine aw_exit ?_) | (refine aw_ret ?_) | (refine arl_cons rfl rfl (by simp +decide only [aop, abuiltin, aeval, aintBin, bin_int, aload_bump, SS, reduceIte, reduceCtorEq, f25, f26, hd2, f24, hp1, hp3, f2, hwm, q1, f3, q2, f11, conv_int Tryd.underlying5 Tryd.underlying45, hw7, shl_int, hneg, hor, q3, hwk]; exact rfl) (by first | rfl | with_reducible assumption) rfl ?_) | (refine arl_none rfl rfl (by simp +decide only [aop, abuiltin, aeval, aintBin, bin_int, aload_bump, SS, reduceIte, reduceCtorEq, f25, f26, hd2, f24, hp1, hp3, f2, hwm, q1, f3, q2, f11, conv_int Tryd.underlying5 Tryd.underlying45, hw7, shl_int, hneg, hor, q3, hwk]; exact rfl) rfl rfl ?_) | (refine arl_off rfl rfl ?_) | (refine aw_condT (by simp +decide only [aop, abuiltin, aeval, aintBin, bin_int, aload_bump, SS, reduceIte, reduceCtorEq, f25, f26, hd2, f24, hp1, hp3, f2, hwm, q1, f3, q2, f11, conv_int Tryd.underlying5 Tryd.underlying45, hw7, shl_int, hneg, hor, q3, hwk]; first | done | exact rfl) ?_) | (refine aw_condF (by simp +decide only [aop, abuiltin, aeval, aintBin, bin_int, aload_bump, SS, reduceIte, reduceCtorEq, f25, f26, hd2, f24, hp1, hp3, f2, hwm, q1, f3, q2, f11, conv_int Tryd.underlying5 Tryd.underlying45, hw7, shl_int, hneg, hor, q3, hwk]; first | done | exact rfl) ?_))
                exact ⟨xs.length - (i + 1), by omega, hE.trans (by repeat (first | exact Keeps.refl _ _ | (refine Keeps.bumpR ?_ _))), i + 1, _, by omega, rfl, him2, hps.1, hps.2, f1, f2, f3, f24, f25, rfl, rfl, hsc⟩
              · have q3 : decide (c ≥ 128) = false := decide_eq_false h128
                rw [if_neg h128] at hsc
                by_cases hz : c = 0
                · have q4 := eqT hz
                  by_cases hi0 : 0 < i
                  · have q5 : decide ((i : Int) > 0) = true := decide_eq_true (by omega)
                    rw [if_pos ⟨hz, hi0⟩] at hsc
                    rw [hsc]
                    repeat (first | (refine aw_seq ?_) | (refine aw_reg0 (by simp only [SZ, Nat.reduceAdd]; exact rfl) ?_) | (refine aw_reg (by decide +kernel) (by simp only [SZ, Nat.reduceAdd]; exact rfl) ?_) | (refine aw_regS (by decide +kernel) (by simp only [SZ, Nat.reduceAdd]; exact rfl) ?_) | (refine arl_nil ?_) | (refine aw_skip ?_) | (refine aw_block ?_) | (refine aw_exit ?_) | (refine aw_ret ?_) | (refine arl_cons rfl rfl (by simp +decide only [aop, abuiltin, aeval, aintBin, bin_int, aload_bump, SS, reduceIte, reduceCtorEq, f25, f26, hd2, f24, hp1, hp3, f2, hwm, q1, f3, q2, f11, conv_int Tryd.underlying5 Tryd.underlying45, hw7, shl_int, hneg, hor, q3, q4, q5]; exact rfl) (by first | rfl | with_reducible assumption) rfl ?_) | (refine arl_none rfl rfl (by simp +decide only [aop, abuiltin, aeval, aintBin, bin_int, aload_bump, SS, reduceIte, reduceCtorEq, f25, f26, hd2, f24, hp1, hp3, f2, hwm, q1, f3, q2, f11, conv_int Tryd.underlying5 Tryd.underlying45, hw7, shl_int, hneg, hor, q3, q4, q5]; exact rfl) rfl rfl ?_) | (refine arl_off rfl rfl ?_) | (refine aw_condT (by simp +decide only [aop, abuiltin, aeval, aintBin, bin_int, aload_bump, SS, reduceIte, reduceCtorEq, f25, f26, hd2, f24, hp1, hp3, f2, hwm, q1, f3, q2, f11, conv_int Tryd.underlying5 Tryd.underlying45, hw7, shl_int, hneg, hor, q3, q4, q5]; first | done | exact rfl) ?_) | (refine aw_condF (by simp +decide only [aop, abuiltin, aeval, aintBin, bin_int, aload_bump, SS, reduceIte, reduceCtorEq, f25, f26, hd2, f24, hp1, hp3, f2, hwm, q1, f3, q2, f11, conv_int Tryd.underlying5 Tryd.underlying45, hw7, shl_int, hneg, hor, q3, q4, q5]; first | done | exact rfl) ?_))
                    exact ⟨.inr rfl, _, rfl, hE.trans (by repeat (first | exact Keeps.refl _ _ | (refine Keeps.bumpR ?_ _))), rfl⟩
                  · have q5 : decide ((i : Int) > 0) = false := decide_eq_false (by omega)
                    rw [if_neg (by omega)] at hsc
                    rw [hsc]
                    repeat (first | (refine aw_seq ?_) | (refine aw_reg0 (by simp only [SZ, Nat.reduceAdd]; exact rfl) ?_) | (refine aw_reg (by decide +kernel) (by simp only [SZ, Nat.reduceAdd]; exact rfl) ?_) | (refine aw_regS (by decide +kernel) (by simp only [SZ, Nat.reduceAdd]; exact rfl) ?_) | (refine arl_nil ?_) | (refine aw_skip ?_) | (refine aw_block ?_) | (refine aw_exit ?_) | (refine aw_ret ?_) | (refine arl_cons rfl rfl (by simp +decide only [aop, abuiltin, aeval, aintBin, bin_int, aload_bump, SS, reduceIte, reduceCtorEq, f25, f26, hd2, f24, hp1, hp3, f2, hwm, q1, f3, q2, f11, conv_int Tryd.underlying5 Tryd.underlying45, hw7, shl_int, hneg, hor, q3, q4, q5, f1, hwa, hwb]; exact rfl) (by first | rfl | with_reducible assumption) rfl ?_) | (refine arl_none rfl rfl (by simp +decide only [aop, abuiltin, aeval, aintBin, bin_int, aload_bump, SS, reduceIte, reduceCtorEq, f25, f26, hd2, f24, hp1, hp3, f2, hwm, q1, f3, q2, f11, conv_int Tryd.underlying5 Tryd.underlying45, hw7, shl_int, hneg, hor, q3, q4, q5, f1, hwa, hwb]; exact rfl) rfl rfl ?_) | (refine arl_off rfl rfl ?_) | (refine aw_condT (by simp +decide only [aop, abuiltin, aeval, aintBin, bin_int, aload_bump, SS, reduceIte, reduceCtorEq, f25, f26, hd2, f24, hp1, hp3, f2, hwm, q1, f3, q2, f11, conv_int Tryd.underlying5 Tryd.underlying45, hw7, shl_int, hneg, hor, q3, q4, q5, f1, hwa, hwb]; first | done | exact rfl) ?_) | (refine aw_condF (by simp +decide only [aop, abuiltin, aeval, aintBin, bin_int, aload_bump, SS, reduceIte, reduceCtorEq, f25, f26, hd2, f24, hp1, hp3, f2, hwm, q1, f3, q2, f11, conv_int Tryd.underlying5 Tryd.underlying45, hw7, shl_int, hneg, hor, q3, q4, q5, f1, hwa, hwb]; first | done | exact rfl) ?_))
                    exact ⟨.inr rfl, _, rfl, hE.trans (by repeat (first | exact Keeps.refl _ _ | (refine Keeps.bumpR ?_ _))), rfl⟩
                · have q4 := eqF hz
                  rw [if_neg (by omega)] at hsc
                  rw [hsc]
                  repeat (first | (refine aw_seq ?_) | (refine aw_reg0 (by simp only [SZ, Nat.reduceAdd]; exact rfl) ?_) | (refine aw_reg (by decide +kernel) (by simp only [SZ, Nat.reduceAdd]; exact rfl) ?_) | (refine aw_regS (by decide +kernel) (by simp only [SZ, Nat.reduceAdd]; exact rfl) ?_) | (refine arl_nil ?_) | (refine aw_skip ?_) | (refine aw_block ?_) | (refine aw_exit ?_) | (refine aw_ret ?_) | (refine arl_cons rfl rfl (by simp +decide only [aop, abuiltin, aeval, aintBin, bin_int, aload_bump, SS, reduceIte, reduceCtorEq, f25, f26, hd2, f24, hp1, hp3, f2, hwm, q1, f3, q2, f11, conv_int Tryd.underlying5 Tryd.underlying45, hw7, shl_int, hneg, hor, q3, q4, f1, hwa, hwb]; exact rfl) (by first | rfl | with_reducible assumption) rfl ?_) | (refine arl_none rfl rfl (by simp +decide only [aop, abuiltin, aeval, aintBin, bin_int, aload_bump, SS, reduceIte, reduceCtorEq, f25, f26, hd2, f24, hp1, hp3, f2, hwm, q1, f3, q2, f11, conv_int Tryd.underlying5 Tryd.underlying45, hw7, shl_int, hneg, hor, q3, q4, f1, hwa, hwb]; exact rfl) rfl rfl ?_) | (refine arl_off rfl rfl ?_) | (refine aw_condT (by simp +decide only [aop, abuiltin, aeval, aintBin, bin_int, aload_bump, SS, reduceIte, reduceCtorEq, f25, f26, hd2, f24, hp1, hp3, f2, hwm, q1, f3, q2, f11, conv_int Tryd.underlying5 Tryd.underlying45, hw7, shl_int, hneg, hor, q3, q4, f1, hwa, hwb]; first | done | exact rfl) ?_) | (refine aw_condF (by simp +decide only [aop, abuiltin, aeval, aintBin, bin_int, aload_bump, SS, reduceIte, reduceCtorEq, f25, f26, hd2, f24, hp1, hp3, f2, hwm, q1, f3, q2, f11, conv_int Tryd.underlying5 Tryd.underlying45, hw7, shl_int, hneg, hor, q3, q4, f1, hwa, hwb]; first | done | exact rfl) ?_))
                  exact ⟨.inr rfl, _, rfl, hE.trans (by repeat (first | exact Keeps.refl _ _ | (refine Keeps.bumpR ?_ _))), rfl⟩
        · have hd2 : decide ((i : Int) < (xs.length : Int)) = false := decide_eq_false (by omega)
          rw [List.drop_of_length_le (by omega), scan] at hsc
          rw [hsc]
          repeat (first | (refine aw_seq ?_) | (refine aw_reg0 (by simp only [SZ, Nat.reduceAdd]; exact rfl) ?_) | (refine aw_reg (by decide +kernel) (by simp only [SZ, Nat.reduceAdd]; exact rfl) ?_) | (refine aw_regS (by decide +kernel) (by simp only [SZ, Nat.reduceAdd]; exact rfl) ?_) | (refine arl_nil ?_) | (refine aw_skip ?_) | (refine aw_block ?_) | (refine aw_exit ?_) | (refine aw_ret ?_) | (refine arl_cons rfl rfl (by simp +decide only [aop, abuiltin, aeval, aintBin, bin_int, aload_bump, SS, reduceIte, reduceCtorEq, f25, f26, hd2]; exact rfl) (by first | rfl | with_reducible assumption) rfl ?_) | (refine arl_none rfl rfl (by simp +decide only [aop, abuiltin, aeval, aintBin, bin_int, aload_bump, SS, reduceIte, reduceCtorEq, f25, f26, hd2]; exact rfl) rfl rfl ?_) | (refine arl_off rfl rfl ?_) | (refine aw_condT (by simp +decide only [aop, abuiltin, aeval, aintBin, bin_int, aload_bump, SS, reduceIte, reduceCtorEq, f25, f26, hd2]; first | done | exact rfl) ?_) | (refine aw_condF (by simp +decide only [aop, abuiltin, aeval, aintBin, bin_int, aload_bump, SS, reduceIte, reduceCtorEq, f25, f26, hd2]; first | done | exact rfl) ?_))
          exact ⟨.inr rfl, _, rfl, hE.trans (by repeat (first | exact Keeps.refl _ _ | (refine Keeps.bumpR ?_ _))), rfl⟩
      · exact ⟨(by repeat (first | exact Keeps.refl _ _ | (refine Keeps.bumpR ?_ _))), 0, 0, by omega, rfl, by omega, by omega, by simp, rfl, rfl, rfl, rfl, rfl, rfl, rfl, rfl⟩
end Go.Proofs.YthjfncppiffnmaaDoor.Ra
