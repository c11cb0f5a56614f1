/- cursor.Reader. -/
import Derived.Test.YtinjlhhhahllhaaSg
namespace Go.Proofs.Ytinjlhhhahllhaa.Ra
open Go Go.RowKit
set_option linter.unusedVariables false
set_option linter.unusedSimpArgs false
set_option maxRecDepth 10000
theorem wrapU64 (x : Int) : IntKind.u64.wrap x = x % 18446744073709551616 := by simp [IntKind.wrap, IntKind.bits, IntKind.signed]
theorem ofInt_nat {w : Nat} {x : Int} {a : Nat} (hx : x % ((2 ^ w : Nat) : Int) = a) : (BitVec.ofInt w x).toNat = a := by
  rw [BitVec.toNat_ofInt, hx, Int.toNat_natCast]
theorem or_of {k : IntKind} {x y : Int} (a b : Nat) (hx : x % ((2 ^ k.bits : Nat) : Int) = a) (hy : y % ((2 ^ k.bits : Nat) : Int) = b) : Go.bits .or k x y = k.wrap ((a ||| b : Nat) : Int) := by
  simp only [Go.bits, BitVec.toNat_or, ofInt_nat hx, ofInt_nat hy]
theorem p64 : ((2 ^ IntKind.u64.bits : Nat) : Int) = 18446744073709551616 := rfl
theorem or_u64_low {x y : Int} (hx0 : 0 ≤ x) (hx : x % 256 = 0) (hx1 : x ≤ 18446744073709551615) (hy0 : 0 ≤ y) (hy : y < 256) : Go.bits .or .u64 x y = x + y := by
  obtain ⟨n, rfl⟩ := Int.eq_ofNat_of_zero_le hx0
  obtain ⟨m, rfl⟩ := Int.eq_ofNat_of_zero_le hy0
  have e : n ||| m = n + m := by
    have hq : n = 2 ^ 8 * (n / 2 ^ 8) := by omega
    rw [hq, ← Nat.two_pow_add_eq_or_of_lt (by omega)]
  have hs : n + m < 2 ^ 64 := by omega
  rw [or_of (k := .u64) (x := (n : Int)) (y := (m : Int)) n m (by rw [p64]; omega) (by rw [p64]; omega), e, wrapU64]
  omega
/-- The number that the bytes make, the highest first. -/
def val (xs : List Int) : Int := xs.foldl (fun v c => v * 256 + c) 0
theorem val_snoc (xs : List Int) (c : Int) : val (xs ++ [c]) = val xs * 256 + c := by simp [val]
theorem val_bound (n : Nat) : ∀ (xs : List Int), xs.length = n → (∀ x ∈ xs, 0 ≤ x ∧ x < 256) → 0 ≤ val xs ∧ val xs < 256 ^ n := by
  induction n with
  | zero =>
    intro xs h _
    have : xs = [] := List.eq_nil_of_length_eq_zero h
    subst this
    simp [val]
  | succ n ih =>
    intro xs h hx
    rcases List.eq_nil_or_concat xs with rfl | ⟨ys, c, rfl⟩
    · simp at h
    · have h1 := ih ys (by simpa using h) (fun x hm => hx x (by simp [hm]))
      have h2 := hx c (by simp)
      rw [List.concat_eq_append, val_snoc, Int.pow_succ]
      omega
theorem rnumber_ok {st : St} (hw : WF st) {K : Nat → Prop} {p : AV} {ys : List Int} {a : Nat} (h : BxO st K RD p ys a) (n : Nat) (hn : n ≤ 8) (ha : a ≤ ys.length) (hl : ys.length ≤ 140737488355327) (hby : ∀ x ∈ ys, 0 ≤ x ∧ x < 256) :
    ACalls Try.prog 23 [p, i64 n] st (fun r s => Keeps K st s ∧ r = (if n ≤ ys.length - a then .tup [.pl (.int .u64 (val ((ys.drop a).take n))), i64 0] else .tup [.pl (.int .u64 0), i64 1]) ∧ BxO s K RD p ys (if n ≤ ys.length - a then a + n else a : Nat)) := by
  have hps := h.solid
  refine acalls_of Try.func23 rfl (by kernel_rfl) (by simp [hps]; rfl) ?_
  repeat (first | (refine aw_seq ?_) | (refine aw_reg0 (by simp only [SZ, Nat.reduceAdd]; exact rfl) ?_) | (refine aw_reg (by decide +kernel) (by simp only [SZ, Nat.reduceAdd]; exact rfl) ?_) | (refine aw_regS (by decide +kernel) (by simp only [SZ, Nat.reduceAdd]; exact rfl) ?_) | (refine arl_nil ?_) | (refine aw_skip ?_) | (refine aw_block ?_) | (refine aw_exit ?_) | (refine aw_ret ?_) | (refine arl_cons rfl rfl (by simp +decide only [aop, abuiltin, aeval, aintBin, bin_int, aload_bump, SS, reduceIte, reduceCtorEq]; exact rfl) (by first | rfl | with_reducible assumption) rfl ?_) | (refine arl_none rfl rfl (by simp +decide only [aop, abuiltin, aeval, aintBin, bin_int, aload_bump, SS, reduceIte, reduceCtorEq]; exact rfl) rfl rfl ?_) | (refine arl_off rfl rfl ?_))
  refine arl_call rfl rfl rfl rfl rfl rfl ((rleft_ok (h.keep (G := fun _ => False) (by repeat (first | assumption | exact Keeps.refl _ _ | (refine Keeps.bumpR ?_ _) | (refine Keeps.put ?_ (by assumption) (by simp only [n_bump, n_put, n_touch, n_kill] at *; omega)))) (fun _ _ h => h)) (by omega) (by omega)).wf (by repeat (first | assumption | (refine WF.bump ?_ _) | (refine WF.put ?_ (by simp only [n_bump, n_put, n_touch, n_kill] at *; omega) (by simp only [n_bump, n_put, n_touch, n_kill] at *; omega)))) |>.mono ?_)
  rintro r s1 ⟨hw1, hn1, hE1, rfl⟩
  refine ⟨rfl, ?_⟩
  replace hE1 : Ext st s1 := Keeps.trans (by repeat (first | assumption | exact Keeps.refl _ _ | (refine Keeps.bumpR ?_ _) | (refine Keeps.put ?_ (by assumption) (by simp only [n_bump, n_put, n_touch, n_kill] at *; omega)))) hE1
  repeat (first | (refine aw_seq ?_) | (refine aw_reg0 (by simp only [SZ, Nat.reduceAdd]; exact rfl) ?_) | (refine aw_reg (by decide +kernel) (by simp only [SZ, Nat.reduceAdd]; exact rfl) ?_) | (refine aw_regS (by decide +kernel) (by simp only [SZ, Nat.reduceAdd]; exact rfl) ?_) | (refine arl_nil ?_) | (refine aw_skip ?_) | (refine aw_block ?_) | (refine aw_exit ?_) | (refine aw_ret ?_) | (refine arl_cons rfl rfl (by simp +decide only [aop, abuiltin, aeval, aintBin, bin_int, aload_bump, SS, reduceIte, reduceCtorEq]; exact rfl) (by first | rfl | with_reducible assumption) rfl ?_) | (refine arl_none rfl rfl (by simp +decide only [aop, abuiltin, aeval, aintBin, bin_int, aload_bump, SS, reduceIte, reduceCtorEq]; exact rfl) rfl rfl ?_) | (refine arl_off rfl rfl ?_))
  (change AW _ _ _ _ _)
  refine aw_cond (by simp +decide only [aop, abuiltin, aeval, aintBin, bin_int, aload_bump, SS, reduceIte, reduceCtorEq]; exact rfl) (fun hc => ?_) (fun hc => ?_)
  · simp only [decide_eq_true_eq] at hc
    have hno : ¬ n ≤ ys.length - a := by omega
    repeat (first | (refine aw_seq ?_) | (refine aw_reg0 (by simp only [SZ, Nat.reduceAdd]; exact rfl) ?_) | (refine aw_reg (by decide +kernel) (by simp only [SZ, Nat.reduceAdd]; exact rfl) ?_) | (refine aw_regS (by decide +kernel) (by simp only [SZ, Nat.reduceAdd]; exact rfl) ?_) | (refine arl_nil ?_) | (refine aw_skip ?_) | (refine aw_block ?_) | (refine aw_exit ?_) | (refine aw_ret ?_) | (refine arl_cons rfl rfl (by simp +decide only [aop, abuiltin, aeval, aintBin, bin_int, aload_bump, SS, reduceIte, reduceCtorEq]; exact rfl) (by first | rfl | with_reducible assumption) rfl ?_) | (refine arl_none rfl rfl (by simp +decide only [aop, abuiltin, aeval, aintBin, bin_int, aload_bump, SS, reduceIte, reduceCtorEq]; exact rfl) rfl rfl ?_) | (refine arl_off rfl rfl ?_))
    refine ⟨.inr rfl, _, rfl, (hE1.mono (fun _ h => h.elim)).bumpR _, ?_, ?_⟩
    · rw [if_neg hno]; rfl
    · rw [if_neg hno]
      exact h.keep (hE1.bumpR _) (fun _ _ h => h)
  · simp only [decide_eq_false_iff_not] at hc
    have hyes : n ≤ ys.length - a := by omega
    obtain ⟨i, g, c, rfl, hg, hKg, hO, hcs, hb0, hb1⟩ := (h.keep hE1 (fun _ _ h => h)).un
    have hwa : IntKind.i64.wrap ((a : Int) + n) = ((a + n : Nat) : Int) := by rw [wrap64_of (by omega) (by omega)]; omega
    obtain ⟨v', hcut, hvs, hR⟩ := hO.rd.cuts (some (i64 a)) (some (i64 (a + n : Nat))) a (a + n) (.inl rfl) (.inl rfl) (by omega) (by omega)
    rw [Nat.add_sub_cancel_left] at hR
    have hzl : ((ys.drop a).take n).length = n := by simp; omega
    have hzm : ∀ x ∈ (ys.drop a).take n, 0 ≤ x ∧ x < 256 := fun x hx => hby x (List.mem_of_mem_drop (List.mem_of_mem_take hx))
    generalize hz : (ys.drop a).take n = zs at hR hzl hzm ⊢
    have hln := hR.len
    rw [hzl] at hln
    repeat (first | (refine aw_seq ?_) | (refine aw_reg0 (by simp only [SZ, Nat.reduceAdd]; exact rfl) ?_) | (refine aw_reg (by decide +kernel) (by simp only [SZ, Nat.reduceAdd]; exact rfl) ?_) | (refine aw_regS (by decide +kernel) (by simp only [SZ, Nat.reduceAdd]; exact rfl) ?_) | (refine arl_nil ?_) | (refine aw_skip ?_) | (refine aw_block ?_) | (refine aw_exit ?_) | (refine aw_ret ?_) | (refine arl_cons rfl rfl (by simp +decide only [aop, abuiltin, aeval, aintBin, bin_int, aload_bump, SS, reduceIte, reduceCtorEq, faR0, faR1, hb0, hb1, hwa, hcut, hln]; exact rfl) (by first | rfl | with_reducible assumption) rfl ?_) | (refine arl_none rfl rfl (by simp +decide only [aop, abuiltin, aeval, aintBin, bin_int, aload_bump, SS, reduceIte, reduceCtorEq, faR0, faR1, hb0, hb1, hwa, hcut, hln]; exact rfl) rfl rfl ?_) | (refine arl_off rfl rfl ?_))
    refine AW.mono (AW.wf (aw_rounds_wf (fun d fr s => Ext s1 s ∧ ∃ (k : Nat), k ≤ n ∧ d = n - k ∧ fr 0 = .ptr i 0 ∧ fr 1 = i64 n ∧ fr 27 = v' ∧ fr 28 = i64 n ∧ fr 29 = i64 k ∧ fr 6 = .pl (.int .u64 (val (zs.take k)))) (Q := fun e fr s => e = .exit 0 ∧ Ext s1 s ∧ fr 0 = .ptr i 0 ∧ fr 1 = i64 n ∧ fr 6 = .pl (.int .u64 (val zs))) ?_ n _ _ (by repeat (first | assumption | (refine WF.bump ?_ _) | (refine WF.put ?_ (by simp only [n_bump, n_put, n_touch, n_kill] at *; omega) (by simp only [n_bump, n_put, n_touch, n_kill] at *; omega)))) ?_) (by repeat (first | assumption | (refine WF.bump ?_ _) | (refine WF.put ?_ (by simp only [n_bump, n_put, n_touch, n_kill] at *; omega) (by simp only [n_bump, n_put, n_touch, n_kill] at *; omega))))) ?_
    · rintro d fr s hws ⟨hE, k, hk, rfl, f0, f1, f27, f28, f29, f6⟩
      have hEn := hE.n
      have hR' := hR.keep hE (fun _ _ h => h)
      repeat (first | (refine aw_seq ?_) | (refine aw_reg0 (by simp only [SZ, Nat.reduceAdd]; exact rfl) ?_) | (refine aw_reg (by decide +kernel) (by simp only [SZ, Nat.reduceAdd]; exact rfl) ?_) | (refine aw_regS (by decide +kernel) (by simp only [SZ, Nat.reduceAdd]; exact rfl) ?_) | (refine arl_nil ?_) | (refine aw_skip ?_) | (refine aw_block ?_) | (refine aw_exit ?_) | (refine aw_ret ?_) | (refine arl_cons rfl rfl (by simp +decide only [aop, abuiltin, aeval, aintBin, bin_int, aload_bump, SS, reduceIte, reduceCtorEq, f28, f29]; exact rfl) (by first | rfl | with_reducible assumption) rfl ?_) | (refine arl_none rfl rfl (by simp +decide only [aop, abuiltin, aeval, aintBin, bin_int, aload_bump, SS, reduceIte, reduceCtorEq, f28, f29]; exact rfl) rfl rfl ?_) | (refine arl_off rfl rfl ?_))
      (change AW _ _ _ _ _)
      refine aw_cond (by simp +decide only [aop, abuiltin, aeval, aintBin, bin_int, aload_bump, SS, reduceIte, reduceCtorEq]; exact rfl) (fun hc2 => ?_) (fun hc2 => ?_)
      · simp only [decide_eq_true_eq] at hc2
        have hk2 : k < n := by omega
        obtain ⟨q, hp1, hp2, hp3⟩ := hR'.atN .i64 k (by omega)
        have hvb := val_bound k (zs.take k) (by simp; omega) (fun x hx => hzm x (List.mem_of_mem_take hx))
        have hcb := hzm zs[k] (List.getElem_mem _)
        have hp8 : (256 : Int) ^ k ≤ 256 ^ 7 := by exact_mod_cast Nat.pow_le_pow_right (n := 256) (by decide) (show k ≤ 7 by omega)
        have hws : IntKind.u64.wrap (val (zs.take k) * 2 ^ min (8 : Int).toNat IntKind.u64.bits) = val (zs.take k) * 256 := by
          rw [show (2 : Int) ^ min (8 : Int).toNat IntKind.u64.bits = 256 from rfl, wrapU64]
          omega
        have hwc : IntKind.u64.wrap zs[k] = zs[k] := by rw [wrapU64]; omega
        have hor := or_u64_low (x := val (zs.take k) * 256) (y := zs[k]) (by omega) (by omega) (by omega) hcb.1 hcb.2
        have hwk : IntKind.i64.wrap ((k : Int) + 1) = ((k + 1 : Nat) : Int) := by rw [wrap64_of (by omega) (by omega)]; omega
        repeat (first | (refine aw_seq ?_) | (refine aw_reg0 (by simp only [SZ, Nat.reduceAdd]; exact rfl) ?_) | (refine aw_reg (by decide +kernel) (by simp only [SZ, Nat.reduceAdd]; exact rfl) ?_) | (refine aw_regS (by decide +kernel) (by simp only [SZ, Nat.reduceAdd]; exact rfl) ?_) | (refine arl_nil ?_) | (refine aw_skip ?_) | (refine aw_block ?_) | (refine aw_exit ?_) | (refine aw_ret ?_) | (refine arl_cons rfl rfl (by simp +decide only [aop, abuiltin, aeval, aintBin, bin_int, aload_bump, SS, reduceIte, reduceCtorEq, f27, f29, f6, hp1, hp3, abin, hws, conv_int Try.underlying5 Try.underlying49, hwc, hor, hwk]; exact rfl) (by first | rfl | with_reducible assumption) rfl ?_) | (refine arl_none rfl rfl (by simp +decide only [aop, abuiltin, aeval, aintBin, bin_int, aload_bump, SS, reduceIte, reduceCtorEq, f27, f29, f6, hp1, hp3, abin, hws, conv_int Try.underlying5 Try.underlying49, hwc, hor, hwk]; exact rfl) rfl rfl ?_) | (refine arl_off rfl rfl ?_))
        refine ⟨n - (k + 1), by omega, (by repeat (first | assumption | exact Keeps.refl _ _ | (refine Keeps.bumpR ?_ _) | (refine Keeps.put ?_ (by assumption) (by simp only [n_bump, n_put, n_touch, n_kill] at *; omega)))), k + 1, by omega, rfl, f0, f1, f27, f28, rfl, ?_⟩
        show AV.pl _ = _
        rw [List.take_succ_eq_append_getElem (by omega), val_snoc]
      · simp only [decide_eq_false_iff_not] at hc2
        obtain rfl : k = n := by omega
        repeat (first | (refine aw_seq ?_) | (refine aw_reg0 (by simp only [SZ, Nat.reduceAdd]; exact rfl) ?_) | (refine aw_reg (by decide +kernel) (by simp only [SZ, Nat.reduceAdd]; exact rfl) ?_) | (refine aw_regS (by decide +kernel) (by simp only [SZ, Nat.reduceAdd]; exact rfl) ?_) | (refine arl_nil ?_) | (refine aw_skip ?_) | (refine aw_block ?_) | (refine aw_exit ?_) | (refine aw_ret ?_) | (refine arl_cons rfl rfl (by simp +decide only [aop, abuiltin, aeval, aintBin, bin_int, aload_bump, SS, reduceIte, reduceCtorEq]; exact rfl) (by first | rfl | with_reducible assumption) rfl ?_) | (refine arl_none rfl rfl (by simp +decide only [aop, abuiltin, aeval, aintBin, bin_int, aload_bump, SS, reduceIte, reduceCtorEq]; exact rfl) rfl rfl ?_) | (refine arl_off rfl rfl ?_))
        refine ⟨rfl, (by repeat (first | assumption | exact Keeps.refl _ _ | (refine Keeps.bumpR ?_ _) | (refine Keeps.put ?_ (by assumption) (by simp only [n_bump, n_put, n_touch, n_kill] at *; omega)))), f0, f1, ?_⟩
        rw [List.take_of_length_le (by omega)] at f6
        exact f6
    · exact ⟨(by repeat (first | assumption | exact Keeps.refl _ _ | (refine Keeps.bumpR ?_ _) | (refine Keeps.put ?_ (by assumption) (by simp only [n_bump, n_put, n_touch, n_kill] at *; omega)))), 0, by omega, rfl, rfl, rfl, rfl, rfl, rfl, rfl⟩
    rintro e fr s2 ⟨hw2, hn2, rfl, hE2, f0, f1, f6⟩
    obtain ⟨i', g', c', hpe, hg2, hKg2, hO2, hcs2, hb02, hb12⟩ := ((h.keep hE1 (fun _ _ h => h)).keep hE2 (fun _ _ h => h)).un
    cases hpe
    repeat (first | (refine aw_seq ?_) | (refine aw_reg0 (by simp only [SZ, Nat.reduceAdd]; exact rfl) ?_) | (refine aw_reg (by decide +kernel) (by simp only [SZ, Nat.reduceAdd]; exact rfl) ?_) | (refine aw_regS (by decide +kernel) (by simp only [SZ, Nat.reduceAdd]; exact rfl) ?_) | (refine arl_nil ?_) | (refine aw_skip ?_) | (refine aw_block ?_) | (refine aw_exit ?_) | (refine aw_ret ?_) | (refine arl_cons rfl rfl (by simp +decide only [aop, abuiltin, aeval, aintBin, bin_int, aload_bump, SS, reduceIte, reduceCtorEq, f0, f1, faR1, hb12, hwa]; exact rfl) (by first | rfl | with_reducible assumption) rfl ?_) | (refine arl_none rfl rfl (by simp +decide only [aop, abuiltin, aeval, aintBin, bin_int, aload_bump, SS, reduceIte, reduceCtorEq, f0, f1, faR1, hb12, hwa]; exact rfl) rfl rfl ?_) | (refine arl_off rfl rfl ?_))
    refine arl_storeC (x := i64 ((a + n : Nat) : Int)) rfl rfl rfl (by simp only [aeval, aput_at]; rfl) (by simp only [aeval, aput_at]; rfl) (i := i) (off := 0 + 1) hg2 szI rfl rfl rfl (by simp) ?_
    repeat (first | (refine aw_seq ?_) | (refine aw_reg0 (by simp only [SZ, Nat.reduceAdd]; exact rfl) ?_) | (refine aw_reg (by decide +kernel) (by simp only [SZ, Nat.reduceAdd]; exact rfl) ?_) | (refine aw_regS (by decide +kernel) (by simp only [SZ, Nat.reduceAdd]; exact rfl) ?_) | (refine arl_nil ?_) | (refine aw_skip ?_) | (refine aw_block ?_) | (refine aw_exit ?_) | (refine aw_ret ?_) | (refine arl_cons rfl rfl (by simp +decide only [aop, abuiltin, aeval, aintBin, bin_int, aload_bump, SS, reduceIte, reduceCtorEq, f6]; exact rfl) (by first | rfl | with_reducible assumption) rfl ?_) | (refine arl_none rfl rfl (by simp +decide only [aop, abuiltin, aeval, aintBin, bin_int, aload_bump, SS, reduceIte, reduceCtorEq, f6]; exact rfl) rfl rfl ?_) | (refine arl_off rfl rfl ?_))
    refine ⟨.inr rfl, _, rfl, (Keeps.write (((hE1.mono (fun _ h => h.elim)).trans (hE2.mono (fun _ h => h.elim))).bumpR 9) hw hg2 (.inl hKg2) 1 1).bumpR _, ?_, ?_⟩
    · rw [if_pos hyes]; rfl
    · rw [if_pos hyes]
      exact ⟨i, g', c', rfl, get_put _ _, hKg2, ((hO2.bump 9).keep (Keeps.write1 (s := s2.bump 9) hg2 1 1) (fun g' h h' => h.2 h')).bump 3⟩
theorem rI16_ok {st : St} (hw : WF st) {K : Nat → Prop} {p : AV} {ys : List Int} {a : Nat} (h : BxO st K RD p ys a) (ha : a ≤ ys.length) (hl : ys.length ≤ 140737488355327) (hby : ∀ x ∈ ys, 0 ≤ x ∧ x < 256) :
    ACalls Try.prog 13 [p] st (fun r s => Keeps K st s ∧ r = (if 2 ≤ ys.length - a then .tup [.pl (.int .i16 (IntKind.i16.wrap (val ((ys.drop a).take 2)))), i64 0] else .tup [.pl (.int .i16 0), i64 1]) ∧ BxO s K RD p ys (if 2 ≤ ys.length - a then a + 2 else a : Nat)) := by
  have hps := h.solid
  refine acalls_of Try.func13 rfl (by kernel_rfl) (by simp [hps]) ?_
  repeat (first | (refine aw_seq ?_) | (refine aw_reg0 (by simp only [SZ, Nat.reduceAdd]; exact rfl) ?_) | (refine aw_reg (by decide +kernel) (by simp only [SZ, Nat.reduceAdd]; exact rfl) ?_) | (refine aw_regS (by decide +kernel) (by simp only [SZ, Nat.reduceAdd]; exact rfl) ?_) | (refine arl_nil ?_) | (refine aw_skip ?_) | (refine aw_block ?_) | (refine aw_exit ?_) | (refine aw_ret ?_) | (refine arl_cons rfl rfl (by simp +decide only [aop, abuiltin, aeval, aintBin, bin_int, aload_bump, SS, reduceIte, reduceCtorEq]; exact rfl) (by first | rfl | with_reducible assumption) rfl ?_) | (refine arl_none rfl rfl (by simp +decide only [aop, abuiltin, aeval, aintBin, bin_int, aload_bump, SS, reduceIte, reduceCtorEq]; exact rfl) rfl rfl ?_) | (refine arl_off rfl rfl ?_))
  refine arl_call rfl rfl rfl rfl rfl rfl ((rnumber_ok (by repeat (first | assumption | (refine WF.bump ?_ _) | (refine WF.put ?_ (by simp only [n_bump, n_put, n_touch, n_kill] at *; omega) (by simp only [n_bump, n_put, n_touch, n_kill] at *; omega)))) (h.keep (G := fun _ => False) (by repeat (first | assumption | exact Keeps.refl _ _ | (refine Keeps.bumpR ?_ _) | (refine Keeps.put ?_ (by assumption) (by simp only [n_bump, n_put, n_touch, n_kill] at *; omega)))) (fun _ _ h => h)) 2 (by omega) ha hl hby).wf (by repeat (first | assumption | (refine WF.bump ?_ _) | (refine WF.put ?_ (by simp only [n_bump, n_put, n_touch, n_kill] at *; omega) (by simp only [n_bump, n_put, n_touch, n_kill] at *; omega)))) |>.mono ?_)
  rintro r s1 ⟨hw1, hn1, hE1, rfl, hB⟩
  replace hE1 : Keeps K st s1 := Keeps.trans (Keeps.mono (G := fun _ => False) (by repeat (first | assumption | exact Keeps.refl _ _ | (refine Keeps.bumpR ?_ _) | (refine Keeps.put ?_ (by assumption) (by simp only [n_bump, n_put, n_touch, n_kill] at *; omega)))) (fun _ h => h.elim)) hE1
  by_cases hy : 2 ≤ ys.length - a
  · simp only [if_pos hy] at hB ⊢
    refine ⟨rfl, ?_⟩
    repeat (first | (refine aw_seq ?_) | (refine aw_reg0 (by simp only [SZ, Nat.reduceAdd]; exact rfl) ?_) | (refine aw_reg (by decide +kernel) (by simp only [SZ, Nat.reduceAdd]; exact rfl) ?_) | (refine aw_regS (by decide +kernel) (by simp only [SZ, Nat.reduceAdd]; exact rfl) ?_) | (refine arl_nil ?_) | (refine aw_skip ?_) | (refine aw_block ?_) | (refine aw_exit ?_) | (refine aw_ret ?_) | (refine arl_cons rfl rfl (by simp +decide only [aop, abuiltin, aeval, aintBin, bin_int, aload_bump, SS, reduceIte, reduceCtorEq, List.getElem?_cons_zero, List.getElem?_cons_succ, conv_int Try.underlying49 Try.underlying28]; exact rfl) (by first | rfl | with_reducible assumption) rfl ?_) | (refine arl_none rfl rfl (by simp +decide only [aop, abuiltin, aeval, aintBin, bin_int, aload_bump, SS, reduceIte, reduceCtorEq, List.getElem?_cons_zero, List.getElem?_cons_succ, conv_int Try.underlying49 Try.underlying28]; exact rfl) rfl rfl ?_) | (refine arl_off rfl rfl ?_))
    exact ⟨.inr rfl, _, rfl, hE1.bumpR _, rfl, hB.keep ((Keeps.refl (fun _ => False) _).bumpR _) (fun _ _ h => h)⟩
  · simp only [if_neg hy] at hB ⊢
    refine ⟨rfl, ?_⟩
    have hz : IntKind.i16.wrap 0 = 0 := by decide
    repeat (first | (refine aw_seq ?_) | (refine aw_reg0 (by simp only [SZ, Nat.reduceAdd]; exact rfl) ?_) | (refine aw_reg (by decide +kernel) (by simp only [SZ, Nat.reduceAdd]; exact rfl) ?_) | (refine aw_regS (by decide +kernel) (by simp only [SZ, Nat.reduceAdd]; exact rfl) ?_) | (refine arl_nil ?_) | (refine aw_skip ?_) | (refine aw_block ?_) | (refine aw_exit ?_) | (refine aw_ret ?_) | (refine arl_cons rfl rfl (by simp +decide only [aop, abuiltin, aeval, aintBin, bin_int, aload_bump, SS, reduceIte, reduceCtorEq, List.getElem?_cons_zero, List.getElem?_cons_succ, conv_int Try.underlying49 Try.underlying28, hz]; exact rfl) (by first | rfl | with_reducible assumption) rfl ?_) | (refine arl_none rfl rfl (by simp +decide only [aop, abuiltin, aeval, aintBin, bin_int, aload_bump, SS, reduceIte, reduceCtorEq, List.getElem?_cons_zero, List.getElem?_cons_succ, conv_int Try.underlying49 Try.underlying28, hz]; exact rfl) rfl rfl ?_) | (refine arl_off rfl rfl ?_))
    exact ⟨.inr rfl, _, rfl, hE1.bumpR _, rfl, hB.keep ((Keeps.refl (fun _ => False) _).bumpR _) (fun _ _ h => h)⟩
end Go.Proofs.Ytinjlhhhahllhaa.Ra
