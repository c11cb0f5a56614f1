/- Number, by the document. -/
import Derived.Test.YtoccmjhgmoandaaSm
namespace Go.Proofs.Ytoccmjhgmoandaa.Ra
open Go Go.RowKit
set_option linter.unusedVariables false
set_option linter.unusedSimpArgs false
set_option maxRecDepth 10000
/-- Two's complement, the highest first. -/
def sval : List Int → Int
  | [] => 0
  | x :: t => t.foldl (fun v c => v * 256 + c) (if 128 ≤ x then x - 256 else x)
theorem sval_snoc (xs : List Int) (c : Int) (h : xs ≠ []) : sval (xs ++ [c]) = sval xs * 256 + c := by
  cases xs with
  | nil => exact absurd rfl h
  | cons x t => simp [sval]
theorem sval_bound (n : Nat) : ∀ (xs : List Int), xs.length = n + 1 → (∀ x ∈ xs, 0 ≤ x ∧ x < 256) → -(128 * 256 ^ n) ≤ sval xs ∧ sval xs < 128 * 256 ^ n := by
  induction n with
  | zero =>
    intro xs h hx
    match xs, h with
    | [x], _ =>
      have := hx x (by simp)
      simp only [sval, List.foldl_nil]
      split <;> omega
  | succ n ih =>
    intro xs h hx
    rcases List.eq_nil_or_concat xs with rfl | ⟨ys, c, rfl⟩
    · simp at h
    · have h1 := ih ys (by simpa using h) (fun x hm => hx x (by simp [hm]))
      have h2 := hx c (by simp)
      rw [List.concat_eq_append, sval_snoc _ _ (by rintro rfl; simp at h), Int.pow_succ]
      omega
theorem val_sval (n : Nat) : ∀ (xs : List Int), xs.length = n + 1 → val xs = sval xs ∨ val xs = sval xs + 256 ^ (n + 1) := by
  induction n with
  | zero =>
    intro xs h
    match xs, h with
    | [x], _ =>
      simp only [sval, val, List.foldl_nil, List.foldl_cons]
      split
      · right; omega
      · left; omega
  | succ n ih =>
    intro xs h
    rcases List.eq_nil_or_concat xs with rfl | ⟨ys, c, rfl⟩
    · simp at h
    · have h1 := ih ys (by simpa using h)
      rw [List.concat_eq_append, sval_snoc _ _ (by rintro rfl; simp at h), val_snoc, Int.pow_succ]
      omega
theorem number_ok {st : St} (hw : WF st) {K : Nat → Prop} {v : AV} {xs : List Int} (h : RdB st K v xs) (a n : Nat) (hn : n ≤ 8) (ha : a ≤ xs.length) (hl : xs.length ≤ 140737488355327) (hby : ∀ x ∈ xs, 0 ≤ x ∧ x < 256) :
    ACalls Try.prog 24 [v, i64 a, i64 n] st (fun r s => Ext st s ∧ r = (if n ≤ xs.length - a then .tup [i64 (sval ((xs.drop a).take n)), .pl (.bool true)] else .tup [i64 0, .pl (.bool false)])) := by
  have hvs := h.solid
  refine acalls_of Try.func24 rfl (by kernel_rfl) (by simp [hvs]; exact ⟨rfl, rfl⟩) ?_
  have hd1 : decide ((a : Int) < 0) = false := decide_eq_false (by omega)
  have hd2 : decide ((a : Int) > xs.length) = false := decide_eq_false (by omega)
  have hwl : IntKind.i64.wrap ((xs.length : Int) - a) = (xs.length : Int) - a := wrap64_of (by omega) (by omega)
  repeat (first | (refine aw_seq ?_) | (refine aw_reg0 (by simp only [SZ, Nat.reduceAdd]; exact rfl) ?_) | (refine aw_reg (by decide +kernel) (by simp only [SZ, Nat.reduceAdd]; exact rfl) ?_) | (refine aw_regS (by decide +kernel) (by simp only [SZ, Nat.reduceAdd]; exact rfl) ?_) | (refine arl_nil ?_) | (refine aw_skip ?_) | (refine aw_block ?_) | (refine aw_exit ?_) | (refine aw_ret ?_) | (refine arl_cons rfl rfl (by simp +decide only [aop, abuiltin, aeval, aintBin, bin_int, aload_bump, SS, reduceIte, reduceCtorEq, hd1, hd2, h.len, hwl]; exact rfl) (by first | rfl | with_reducible assumption) rfl ?_) | (refine arl_none rfl rfl (by simp +decide only [aop, abuiltin, aeval, aintBin, bin_int, aload_bump, SS, reduceIte, reduceCtorEq, hd1, hd2, h.len, hwl]; exact rfl) rfl rfl ?_) | (refine arl_off rfl rfl ?_))
  (change AW _ _ _ _ _)
  refine aw_cond (by simp +decide only [aop, abuiltin, aeval, aintBin, bin_int, aload_bump, SS, reduceIte, reduceCtorEq]; exact rfl) (fun hc => ?_) (fun hc => ?_)
  · simp only [gt_iff_lt, decide_eq_true_eq] at hc
    repeat (first | (refine aw_seq ?_) | (refine aw_reg0 (by simp only [SZ, Nat.reduceAdd]; exact rfl) ?_) | (refine aw_reg (by decide +kernel) (by simp only [SZ, Nat.reduceAdd]; exact rfl) ?_) | (refine aw_regS (by decide +kernel) (by simp only [SZ, Nat.reduceAdd]; exact rfl) ?_) | (refine arl_nil ?_) | (refine aw_skip ?_) | (refine aw_block ?_) | (refine aw_exit ?_) | (refine aw_ret ?_) | (refine arl_cons rfl rfl (by simp +decide only [aop, abuiltin, aeval, aintBin, bin_int, aload_bump, SS, reduceIte, reduceCtorEq]; exact rfl) (by first | rfl | with_reducible assumption) rfl ?_) | (refine arl_none rfl rfl (by simp +decide only [aop, abuiltin, aeval, aintBin, bin_int, aload_bump, SS, reduceIte, reduceCtorEq]; exact rfl) rfl rfl ?_) | (refine arl_off rfl rfl ?_))
    exact ⟨.inr rfl, _, rfl, (by repeat (first | assumption | exact Keeps.refl _ _ | (refine Keeps.bumpR ?_ _) | (refine Keeps.put ?_ (by assumption) (by simp only [n_bump, n_put, n_touch, n_kill] at *; omega)))), by rw [if_neg (by omega)]; rfl⟩
  · simp only [gt_iff_lt, decide_eq_false_iff_not] at hc
    have hyes : n ≤ xs.length - a := by omega
    rw [if_pos hyes]
    obtain ⟨zs, hz⟩ : ∃ zs, zs = (xs.drop a).take n := ⟨_, rfl⟩
    have hzl : zs.length = n := by rw [hz]; simp; omega
    have hzm : ∀ x ∈ zs, 0 ≤ x ∧ x < 256 := fun x hx => hby x (List.mem_of_mem_drop (List.mem_of_mem_take (by rw [← hz]; exact hx)))
    have hzg : ∀ k (hk : k < n), zs[k]'(by omega) = xs[a + k]'(by omega) := fun k hk => by subst hz; simp
    rw [← hz]
    clear hz
    repeat (first | (refine aw_seq ?_) | (refine aw_reg0 (by simp only [SZ, Nat.reduceAdd]; exact rfl) ?_) | (refine aw_reg (by decide +kernel) (by simp only [SZ, Nat.reduceAdd]; exact rfl) ?_) | (refine aw_regS (by decide +kernel) (by simp only [SZ, Nat.reduceAdd]; exact rfl) ?_) | (refine arl_nil ?_) | (refine aw_skip ?_) | (refine aw_block ?_) | (refine aw_exit ?_) | (refine aw_ret ?_) | (refine arl_cons rfl rfl (by simp +decide only [aop, abuiltin, aeval, aintBin, bin_int, aload_bump, SS, reduceIte, reduceCtorEq]; exact rfl) (by first | rfl | with_reducible assumption) rfl ?_) | (refine arl_none rfl rfl (by simp +decide only [aop, abuiltin, aeval, aintBin, bin_int, aload_bump, SS, reduceIte, reduceCtorEq]; exact rfl) rfl rfl ?_) | (refine arl_off rfl rfl ?_))
    refine aw_rounds_wf (fun d fr s => Ext st s ∧ ∃ (k : Nat), k ≤ n ∧ d = n - k ∧ fr 0 = v ∧ fr 1 = i64 a ∧ fr 2 = i64 n ∧ fr 9 = i64 k ∧ fr 8 = i64 (sval (zs.take k))) ?_ n _ _ (by repeat (first | assumption | (refine WF.bump ?_ _) | (refine WF.put ?_ (by simp only [n_bump, n_put, n_touch, n_kill] at *; omega) (by simp only [n_bump, n_put, n_touch, n_kill] at *; omega)))) ?_
    · rintro d fr s hws ⟨hE, k, hk, rfl, f0, f1, f2, f9, f8⟩
      have hR := h.keep hE (fun _ _ h => h)
      have hEn := hE.n
      repeat (first | (refine aw_seq ?_) | (refine aw_reg0 (by simp only [SZ, Nat.reduceAdd]; exact rfl) ?_) | (refine aw_reg (by decide +kernel) (by simp only [SZ, Nat.reduceAdd]; exact rfl) ?_) | (refine aw_regS (by decide +kernel) (by simp only [SZ, Nat.reduceAdd]; exact rfl) ?_) | (refine arl_nil ?_) | (refine aw_skip ?_) | (refine aw_block ?_) | (refine aw_exit ?_) | (refine aw_ret ?_) | (refine arl_cons rfl rfl (by simp +decide only [aop, abuiltin, aeval, aintBin, bin_int, aload_bump, SS, reduceIte, reduceCtorEq, f2, f9]; exact rfl) (by first | rfl | with_reducible assumption) rfl ?_) | (refine arl_none rfl rfl (by simp +decide only [aop, abuiltin, aeval, aintBin, bin_int, aload_bump, SS, reduceIte, reduceCtorEq, f2, f9]; exact rfl) rfl rfl ?_) | (refine arl_off rfl rfl ?_))
      (change AW _ _ _ _ _)
      refine aw_cond (by simp +decide only [aop, abuiltin, aeval, aintBin, bin_int, aload_bump, SS, reduceIte, reduceCtorEq]; exact rfl) (fun hc2 => ?_) (fun hc2 => ?_)
      · simp only [decide_eq_true_eq] at hc2
        have hk2 : k < n := by omega
        obtain ⟨q, hp1, hp2, hp3⟩ := hR.atN .i64 (a + k) (by omega)
        rw [← hzg k hk2] at hp3
        have hcb := hzm zs[k] (List.getElem_mem _)
        have hwa : IntKind.i64.wrap ((a : Int) + k) = ((a + k : Nat) : Int) := by rw [wrap64_of (by omega) (by omega)]; omega
        have hwc : IntKind.i64.wrap zs[k] = zs[k] := wrap64_of (by omega) (by omega)
        have hwk : IntKind.i64.wrap ((k : Int) + 1) = ((k + 1 : Nat) : Int) := by rw [wrap64_of (by omega) (by omega)]; omega
        have hts : zs.take (k + 1) = zs.take k ++ [zs[k]] := List.take_succ_eq_append_getElem (by omega)
        by_cases h0 : k = 0
        · subst h0
          have hwm : IntKind.i64.wrap (sval (zs.take 0) * 256) = 0 := by rw [List.take_zero]; decide
          have hs1 : sval (zs.take 1) = if 128 ≤ zs[0] then zs[0] - 256 else zs[0] := by rw [show (1 : Nat) = 0 + 1 from rfl, hts]; rfl
          have hz0 : (((0 : Nat) : Int) == 0) = true := rfl
          by_cases hg : zs[0] ≥ 128
          · have hdg : decide (zs[0] ≥ 128) = true := decide_eq_true hg
            have hws2 : IntKind.i64.wrap (zs[0] - 256) = zs[0] - 256 := wrap64_of (by omega) (by omega)
            have hwv : IntKind.i64.wrap ((0 : Int) + (zs[0] - 256)) = zs[0] - 256 := by rw [wrap64_of (by omega) (by omega)]; omega
            repeat (first | (refine aw_seq ?_) | (refine aw_reg0 (by simp only [SZ, Nat.reduceAdd]; exact rfl) ?_) | (refine aw_reg (by decide +kernel) (by simp only [SZ, Nat.reduceAdd]; exact rfl) ?_) | (refine aw_regS (by decide +kernel) (by simp only [SZ, Nat.reduceAdd]; exact rfl) ?_) | (refine arl_nil ?_) | (refine aw_skip ?_) | (refine aw_block ?_) | (refine aw_exit ?_) | (refine aw_ret ?_) | (refine arl_cons rfl rfl (by simp +decide only [aop, abuiltin, aeval, aintBin, bin_int, aload_bump, SS, reduceIte, reduceCtorEq, f0, f1, f9, f8, hwa, hp1, hp3, conv_int Try.underlying5 Try.underlying2, hwc, hz0, hdg]; exact rfl) (by first | rfl | with_reducible assumption) rfl ?_) | (refine arl_none rfl rfl (by simp +decide only [aop, abuiltin, aeval, aintBin, bin_int, aload_bump, SS, reduceIte, reduceCtorEq, f0, f1, f9, f8, hwa, hp1, hp3, conv_int Try.underlying5 Try.underlying2, hwc, hz0, hdg]; exact rfl) rfl rfl ?_) | (refine arl_off rfl rfl ?_))
            (change AW _ _ _ _ _)
            refine aw_cond (by simp +decide only [aop, abuiltin, aeval, aintBin, bin_int, aload_bump, SS, reduceIte, reduceCtorEq]; exact rfl) (fun hq => ?_) (fun hq => ?_)
            · repeat (first | (refine aw_seq ?_) | (refine aw_reg0 (by simp only [SZ, Nat.reduceAdd]; exact rfl) ?_) | (refine aw_reg (by decide +kernel) (by simp only [SZ, Nat.reduceAdd]; exact rfl) ?_) | (refine aw_regS (by decide +kernel) (by simp only [SZ, Nat.reduceAdd]; exact rfl) ?_) | (refine arl_nil ?_) | (refine aw_skip ?_) | (refine aw_block ?_) | (refine aw_exit ?_) | (refine aw_ret ?_) | (refine arl_cons rfl rfl (by simp +decide only [aop, abuiltin, aeval, aintBin, bin_int, aload_bump, SS, reduceIte, reduceCtorEq, f8, f9, hws2, hwm, hwv, hwk]; exact rfl) (by first | rfl | with_reducible assumption) rfl ?_) | (refine arl_none rfl rfl (by simp +decide only [aop, abuiltin, aeval, aintBin, bin_int, aload_bump, SS, reduceIte, reduceCtorEq, f8, f9, hws2, hwm, hwv, hwk]; exact rfl) rfl rfl ?_) | (refine arl_off rfl rfl ?_))
              refine ⟨n - (0 + 1), by omega, (by repeat (first | assumption | exact Keeps.refl _ _ | (refine Keeps.bumpR ?_ _) | (refine Keeps.put ?_ (by assumption) (by simp only [n_bump, n_put, n_touch, n_kill] at *; omega)))), 0 + 1, by omega, rfl, f0, f1, f2, rfl, ?_⟩
              rw [show (0 + 1 : Nat) = 1 from rfl, hs1, if_pos (show 128 ≤ zs[0] from hg)]; rfl
            · cases hq
          · have hdg : decide (zs[0] ≥ 128) = false := decide_eq_false hg
            have hwv : IntKind.i64.wrap ((0 : Int) + zs[0]) = zs[0] := by rw [wrap64_of (by omega) (by omega)]; omega
            repeat (first | (refine aw_seq ?_) | (refine aw_reg0 (by simp only [SZ, Nat.reduceAdd]; exact rfl) ?_) | (refine aw_reg (by decide +kernel) (by simp only [SZ, Nat.reduceAdd]; exact rfl) ?_) | (refine aw_regS (by decide +kernel) (by simp only [SZ, Nat.reduceAdd]; exact rfl) ?_) | (refine arl_nil ?_) | (refine aw_skip ?_) | (refine aw_block ?_) | (refine aw_exit ?_) | (refine aw_ret ?_) | (refine arl_cons rfl rfl (by simp +decide only [aop, abuiltin, aeval, aintBin, bin_int, aload_bump, SS, reduceIte, reduceCtorEq, f0, f1, f9, f8, hwa, hp1, hp3, conv_int Try.underlying5 Try.underlying2, hwc, hz0, hdg]; exact rfl) (by first | rfl | with_reducible assumption) rfl ?_) | (refine arl_none rfl rfl (by simp +decide only [aop, abuiltin, aeval, aintBin, bin_int, aload_bump, SS, reduceIte, reduceCtorEq, f0, f1, f9, f8, hwa, hp1, hp3, conv_int Try.underlying5 Try.underlying2, hwc, hz0, hdg]; exact rfl) rfl rfl ?_) | (refine arl_off rfl rfl ?_))
            (change AW _ _ _ _ _)
            refine aw_cond (by simp +decide only [aop, abuiltin, aeval, aintBin, bin_int, aload_bump, SS, reduceIte, reduceCtorEq]; exact rfl) (fun hq => ?_) (fun hq => ?_)
            · cases hq
            · repeat (first | (refine aw_seq ?_) | (refine aw_reg0 (by simp only [SZ, Nat.reduceAdd]; exact rfl) ?_) | (refine aw_reg (by decide +kernel) (by simp only [SZ, Nat.reduceAdd]; exact rfl) ?_) | (refine aw_regS (by decide +kernel) (by simp only [SZ, Nat.reduceAdd]; exact rfl) ?_) | (refine arl_nil ?_) | (refine aw_skip ?_) | (refine aw_block ?_) | (refine aw_exit ?_) | (refine aw_ret ?_) | (refine arl_cons rfl rfl (by simp +decide only [aop, abuiltin, aeval, aintBin, bin_int, aload_bump, SS, reduceIte, reduceCtorEq, f8, f9, hwm, hwv, hwk]; exact rfl) (by first | rfl | with_reducible assumption) rfl ?_) | (refine arl_none rfl rfl (by simp +decide only [aop, abuiltin, aeval, aintBin, bin_int, aload_bump, SS, reduceIte, reduceCtorEq, f8, f9, hwm, hwv, hwk]; exact rfl) rfl rfl ?_) | (refine arl_off rfl rfl ?_))
              refine ⟨n - (0 + 1), by omega, (by repeat (first | assumption | exact Keeps.refl _ _ | (refine Keeps.bumpR ?_ _) | (refine Keeps.put ?_ (by assumption) (by simp only [n_bump, n_put, n_touch, n_kill] at *; omega)))), 0 + 1, by omega, rfl, f0, f1, f2, rfl, ?_⟩
              rw [show (0 + 1 : Nat) = 1 from rfl, hs1, if_neg (by omega)]; rfl
        · have hz0 : ((k : Int) == 0) = false := by simp; omega
          have hvb := sval_bound (k - 1) (zs.take k) (by simp; omega) (fun x hx => hzm x (List.mem_of_mem_take hx))
          have hp8 : (256 : Int) ^ (k - 1) ≤ 256 ^ 6 := by exact_mod_cast Nat.pow_le_pow_right (n := 256) (by decide) (show k - 1 ≤ 6 by omega)
          have hwm : IntKind.i64.wrap (sval (zs.take k) * 256) = sval (zs.take k) * 256 := wrap64_of (by omega) (by omega)
          have hwv : IntKind.i64.wrap (sval (zs.take k) * 256 + zs[k]) = sval (zs.take (k + 1)) := by rw [hts, sval_snoc _ _ (by intro e; have := congrArg List.length e; rw [List.length_take, List.length_nil] at this; omega), wrap64_of (by omega) (by omega)]
          repeat (first | (refine aw_seq ?_) | (refine aw_reg0 (by simp only [SZ, Nat.reduceAdd]; exact rfl) ?_) | (refine aw_reg (by decide +kernel) (by simp only [SZ, Nat.reduceAdd]; exact rfl) ?_) | (refine aw_regS (by decide +kernel) (by simp only [SZ, Nat.reduceAdd]; exact rfl) ?_) | (refine arl_nil ?_) | (refine aw_skip ?_) | (refine aw_block ?_) | (refine aw_exit ?_) | (refine aw_ret ?_) | (refine arl_cons rfl rfl (by simp +decide only [aop, abuiltin, aeval, aintBin, bin_int, aload_bump, SS, reduceIte, reduceCtorEq, f0, f1, f9, f8, hwa, hp1, hp3, conv_int Try.underlying5 Try.underlying2, hwc, hz0]; exact rfl) (by first | rfl | with_reducible assumption) rfl ?_) | (refine arl_none rfl rfl (by simp +decide only [aop, abuiltin, aeval, aintBin, bin_int, aload_bump, SS, reduceIte, reduceCtorEq, f0, f1, f9, f8, hwa, hp1, hp3, conv_int Try.underlying5 Try.underlying2, hwc, hz0]; exact rfl) rfl rfl ?_) | (refine arl_off rfl rfl ?_))
          (change AW _ _ _ _ _)
          refine aw_cond (by simp +decide only [aop, abuiltin, aeval, aintBin, bin_int, aload_bump, SS, reduceIte, reduceCtorEq]; exact rfl) (fun hq => ?_) (fun hq => ?_)
          · cases hq
          · repeat (first | (refine aw_seq ?_) | (refine aw_reg0 (by simp only [SZ, Nat.reduceAdd]; exact rfl) ?_) | (refine aw_reg (by decide +kernel) (by simp only [SZ, Nat.reduceAdd]; exact rfl) ?_) | (refine aw_regS (by decide +kernel) (by simp only [SZ, Nat.reduceAdd]; exact rfl) ?_) | (refine arl_nil ?_) | (refine aw_skip ?_) | (refine aw_block ?_) | (refine aw_exit ?_) | (refine aw_ret ?_) | (refine arl_cons rfl rfl (by simp +decide only [aop, abuiltin, aeval, aintBin, bin_int, aload_bump, SS, reduceIte, reduceCtorEq, f8, f9, hwm, hwv, hwk]; exact rfl) (by first | rfl | with_reducible assumption) rfl ?_) | (refine arl_none rfl rfl (by simp +decide only [aop, abuiltin, aeval, aintBin, bin_int, aload_bump, SS, reduceIte, reduceCtorEq, f8, f9, hwm, hwv, hwk]; exact rfl) rfl rfl ?_) | (refine arl_off rfl rfl ?_))
            exact ⟨n - (k + 1), by omega, (by repeat (first | assumption | exact Keeps.refl _ _ | (refine Keeps.bumpR ?_ _) | (refine Keeps.put ?_ (by assumption) (by simp only [n_bump, n_put, n_touch, n_kill] at *; omega)))), k + 1, by omega, rfl, f0, f1, f2, rfl, rfl⟩
      · simp only [decide_eq_false_iff_not] at hc2
        obtain rfl : k = n := by omega
        rw [List.take_of_length_le (by omega)] at f8
        repeat (first | (refine aw_seq ?_) | (refine aw_reg0 (by simp only [SZ, Nat.reduceAdd]; exact rfl) ?_) | (refine aw_reg (by decide +kernel) (by simp only [SZ, Nat.reduceAdd]; exact rfl) ?_) | (refine aw_regS (by decide +kernel) (by simp only [SZ, Nat.reduceAdd]; exact rfl) ?_) | (refine arl_nil ?_) | (refine aw_skip ?_) | (refine aw_block ?_) | (refine aw_exit ?_) | (refine aw_ret ?_) | (refine arl_cons rfl rfl (by simp +decide only [aop, abuiltin, aeval, aintBin, bin_int, aload_bump, SS, reduceIte, reduceCtorEq, f8]; exact rfl) (by first | rfl | with_reducible assumption) rfl ?_) | (refine arl_none rfl rfl (by simp +decide only [aop, abuiltin, aeval, aintBin, bin_int, aload_bump, SS, reduceIte, reduceCtorEq, f8]; exact rfl) rfl rfl ?_) | (refine arl_off rfl rfl ?_))
        exact ⟨.inr rfl, _, rfl, (by repeat (first | assumption | exact Keeps.refl _ _ | (refine Keeps.bumpR ?_ _) | (refine Keeps.put ?_ (by assumption) (by simp only [n_bump, n_put, n_touch, n_kill] at *; omega)))), rfl⟩
    · exact ⟨(by repeat (first | assumption | exact Keeps.refl _ _ | (refine Keeps.bumpR ?_ _) | (refine Keeps.put ?_ (by assumption) (by simp only [n_bump, n_put, n_touch, n_kill] at *; omega)))), 0, by omega, rfl, rfl, rfl, rfl, rfl, rfl⟩
end Go.Proofs.Ytoccmjhgmoandaa.Ra
