/- Digits; cursor.Writer.Set32. -/
import Derived.Test.YtoccmjhgmoandaaSw
namespace Go.Proofs.Ytoccmjhgmoandaa.Ra
open Go Go.RowKit
set_option linter.unusedVariables false
set_option linter.unusedSimpArgs false
set_option maxRecDepth 10000
theorem emod_mul (x : Int) (m : Int) (hm : 0 < m) : x % (256 * m) = 256 * (x / 256 % m) + x % 256 := by
  have h2 : x / 256 / m = x / (256 * m) := Int.ediv_ediv_of_nonneg (by decide)
  rw [Int.emod_def (x / 256), Int.emod_def x (256 * m), h2, Int.mul_assoc]
  generalize m * (x / (256 * m)) = t
  omega
theorem bes_congr (n : Nat) : ∀ x y : Int, x % 256 ^ n = y % 256 ^ n → bes x n = bes y n := by
  induction n with
  | zero => intro x y _; rfl
  | succ n ih =>
    intro x y h
    have hp : (0 : Int) < 256 ^ n := Int.pow_pos (by decide)
    rw [Int.pow_succ, Int.mul_comm, emod_mul x _ hp, emod_mul y _ hp] at h
    rw [bes_snoc, bes_snoc, ih (x / 256) (y / 256) (by omega)]
    congr 2
    omega
theorem bes_wrap (v : Int) (n : Nat) (h : n ≤ 8) : bes (IntKind.u64.wrap v) n = bes v n := by
  refine bes_congr n _ _ ?_
  rw [wrapU64]
  refine Int.emod_emod_of_dvd _ ⟨256 ^ (8 - n), ?_⟩
  rw [← Int.pow_add, show n + (8 - n) = 8 by omega]
  rfl
theorem bes_at (v : Int) (n k : Nat) (h : k < n) : (bes v n)[k]'(by rw [bes_len]; exact h) = (v / 256 ^ (n - 1 - k)) % 256 := by
  rw [bes_get _ _ _ h]
  congr 2
  rw [show (256 : Int) = 2 ^ 8 from rfl, ← Int.pow_mul]
/-- The lowest first. -/
def lows (v : Int) (n : Nat) : List Int := (List.range n).map fun i => (v / 256 ^ i) % 256
theorem lows_len (v : Int) (n : Nat) : (lows v n).length = n := by simp [lows]
theorem lows_succ (v : Int) (n : Nat) : lows v (n + 1) = lows v n ++ [(v / 256 ^ n) % 256] := by simp [lows, List.range_succ]
theorem lows_at (v : Int) (n k : Nat) (h : k < n) : (lows v n)[k]'(by rw [lows_len]; exact h) = (v / 256 ^ k) % 256 := by simp [lows]
theorem tmod_fix (x : Int) : (if x.tmod 256 < 0 then x.tmod 256 + 256 else x.tmod 256) = x % 256 := by
  have h1 := Int.tmod_eq_emod (a := x) (b := 256)
  have h2 := Int.emod_nonneg x (show (256 : Int) ≠ 0 by decide)
  have h3 := Int.emod_lt_of_pos x (show (0 : Int) < 256 by decide)
  have h4 : ((256 : Int).natAbs : Int) = 256 := rfl
  rw [h1]
  by_cases h5 : 0 ≤ x ∨ (256 : Int) ∣ x
  · rw [if_pos h5]
    simp only [Int.natCast_zero, Int.sub_zero]
    rw [if_neg (by omega)]
  · rw [if_neg h5, h4, if_pos (by omega)]
    omega
theorem tdiv_fix (x : Int) : (x - x % 256).tdiv 256 = x / 256 := by
  have : x - x % 256 = 256 * (x / 256) := by omega
  rw [this, Int.mul_tdiv_cancel_left _ (by decide)]
theorem pow_div (v : Int) (k : Nat) : v / 256 ^ k / 256 = v / 256 ^ (k + 1) := by
  rw [Int.ediv_ediv_of_nonneg (Int.le_of_lt (Int.pow_pos (by decide))), Int.pow_succ]
theorem div_bound (v : Int) (k : Nat) (h : -9223372036854775808 ≤ v ∧ v ≤ 9223372036854775807) : -9223372036854775808 ≤ v / 256 ^ k ∧ v / 256 ^ k ≤ 9223372036854775807 := by
  induction k with
  | zero => simpa using h
  | succ k ih => rw [← pow_div]; omega
theorem digits_ok {st : St} (hw : WF st) (v : Int) (n : Nat) (hn : n ≤ 8) (hv : -9223372036854775808 ≤ v ∧ v ≤ 9223372036854775807) :
    ACalls Try.prog 39 [i64 v, i64 n] st (fun r s => Ext st s ∧ r.solid = true ∧ OwB s (fun g => st.n ≤ g) r (bes v n)) := by
  refine acalls_of Try.func39 rfl (by kernel_rfl) rfl ?_
  repeat (first | (refine aw_seq ?_) | (refine aw_reg0 (by simp only [SZ, Nat.reduceAdd]; exact rfl) ?_) | (refine aw_reg (by decide +kernel) (by simp only [SZ, Nat.reduceAdd]; exact rfl) ?_) | (refine aw_regS (by decide +kernel) (by simp only [SZ, Nat.reduceAdd]; exact rfl) ?_) | (refine arl_nil ?_) | (refine aw_skip ?_) | (refine aw_block ?_) | (refine aw_exit ?_) | (refine aw_ret ?_) | (refine arl_cons rfl rfl (by simp +decide only [aop, abuiltin, aeval, aintBin, bin_int, aload_bump, SS, reduceIte, reduceCtorEq, lit0]; exact rfl) (by first | rfl | with_reducible assumption) rfl ?_) | (refine arl_none rfl rfl (by simp +decide only [aop, abuiltin, aeval, aintBin, bin_int, aload_bump, SS, reduceIte, reduceCtorEq, lit0]; exact rfl) rfl rfl ?_) | (refine arl_off rfl rfl ?_) | (refine aw_condT (by simp +decide only [aop, abuiltin, aeval, aintBin, bin_int, aload_bump, SS, reduceIte, reduceCtorEq, lit0]; first | done | exact rfl) ?_) | (refine aw_condF (by simp +decide only [aop, abuiltin, aeval, aintBin, bin_int, aload_bump, SS, reduceIte, reduceCtorEq, lit0]; first | done | exact rfl) ?_))
  refine AW.mono (AW.wf (aw_rounds_wf (fun d fr s => Ext st s ∧ ∃ (k : Nat), k ≤ n ∧ d = n - k ∧ fr 0 = i64 (v / 256 ^ k) ∧ fr 1 = i64 n ∧ fr 6 = i64 k ∧ OwB s (fun g => st.n ≤ g) (fr 5) (lows v k))
    (Q := fun e fr s => e = .exit 0 ∧ Ext st s ∧ fr 1 = i64 n ∧ OwB s (fun g => st.n ≤ g) (fr 5) (lows v n)) ?_ n _ _ (by repeat (first | assumption | (refine WF.bump ?_ _) | (refine WF.put ?_ (by simp only [n_bump, n_put, n_touch, n_kill] at *; omega) (by simp only [n_bump, n_put, n_touch, n_kill] at *; omega)))) ?_) (by repeat (first | assumption | (refine WF.bump ?_ _) | (refine WF.put ?_ (by simp only [n_bump, n_put, n_touch, n_kill] at *; omega) (by simp only [n_bump, n_put, n_touch, n_kill] at *; omega))))) ?_
  · rintro d fr s hws ⟨hE, k, hk, rfl, f0, f1, f6, hO⟩
    have hos := hO.solid
    have hEn := hE.n
    by_cases hlt : k < n
    · have hd : decide ((k : Int) < (n : Int)) = true := decide_eq_true (by omega)
      have hb := div_bound v k hv
      have hfix := tmod_fix (v / 256 ^ k)
      have hwk := wrap_succ (k := k) (by omega)
      have hwd : IntKind.u8.wrap ((v / 256 ^ k) % 256) = (v / 256 ^ k) % 256 := by rw [IntKind.wrap_u8]; omega
      have hws1 : IntKind.i64.wrap (v / 256 ^ k - (v / 256 ^ k) % 256) = v / 256 ^ k - (v / 256 ^ k) % 256 := wrap64_of (by omega) (by omega)
      have htd := tdiv_fix (v / 256 ^ k)
      have hwt : IntKind.i64.wrap (v / 256 ^ k / 256) = v / 256 ^ (k + 1) := by rw [wrap64_of (by omega) (by omega), pow_div]
      have tail : ∀ (dd : Int), dd = (v / 256 ^ k) % 256 → True := fun _ _ => trivial
      by_cases hneg : (v / 256 ^ k).tmod 256 < 0
      · have hd2 : decide ((v / 256 ^ k).tmod 256 < 0) = true := decide_eq_true hneg
        rw [if_pos hneg] at hfix
        have hwa : IntKind.i64.wrap ((v / 256 ^ k).tmod 256 + 256) = (v / 256 ^ k) % 256 := by rw [hfix]; exact wrap64_of (by omega) (by omega)
        repeat (first | (refine aw_seq ?_) | (refine aw_reg0 (by simp only [SZ, Nat.reduceAdd]; exact rfl) ?_) | (refine aw_reg (by decide +kernel) (by simp only [SZ, Nat.reduceAdd]; exact rfl) ?_) | (refine aw_regS (by decide +kernel) (by simp only [SZ, Nat.reduceAdd]; exact rfl) ?_) | (refine arl_nil ?_) | (refine aw_skip ?_) | (refine aw_block ?_) | (refine aw_exit ?_) | (refine aw_ret ?_) | (refine arl_cons rfl rfl (by simp +decide only [aop, abuiltin, aeval, aintBin, bin_int, aload_bump, SS, reduceIte, reduceCtorEq, f6, f1, hd, f0, hd2, hwa, conv_int Try.underlying2 Try.underlying5, hwd, lit1]; exact rfl) (by first | rfl | with_reducible assumption) rfl ?_) | (refine arl_none rfl rfl (by simp +decide only [aop, abuiltin, aeval, aintBin, bin_int, aload_bump, SS, reduceIte, reduceCtorEq, f6, f1, hd, f0, hd2, hwa, conv_int Try.underlying2 Try.underlying5, hwd, lit1]; exact rfl) rfl rfl ?_) | (refine arl_off rfl rfl ?_) | (refine aw_condT (by simp +decide only [aop, abuiltin, aeval, aintBin, bin_int, aload_bump, SS, reduceIte, reduceCtorEq, f6, f1, hd, f0, hd2, hwa, conv_int Try.underlying2 Try.underlying5, hwd, lit1]; first | done | exact rfl) ?_) | (refine aw_condF (by simp +decide only [aop, abuiltin, aeval, aintBin, bin_int, aload_bump, SS, reduceIte, reduceCtorEq, f6, f1, hd, f0, hd2, hwa, conv_int Try.underlying2 Try.underlying5, hwd, lit1]; first | done | exact rfl) ?_))
        refine arl_app (K := fun g => st.n ≤ g) (K' := fun _ => True) (xs := lows v k) (ns := [(v / 256 ^ k) % 256]) rfl rfl rfl (hO.up (by repeat (first | assumption | exact Keeps.refl _ _ | (refine Keeps.bumpR ?_ _) | (refine Keeps.put ?_ (by assumption) (by simp only [n_bump, n_put, n_touch, n_kill] at *; omega))))) (RdB.lit _ _ _ [_]) (by simp only [n_bump, n_put, n_touch, n_kill] at *; omega) (by simp [lows_len]; omega) ?_
        intro y s2 hO2 hn2 hK2
        have hys := hO2.solid
        have hE2 : Ext st s2 := hK2 _ st hw (by repeat (first | assumption | exact Keeps.refl _ _ | (refine Keeps.bumpR ?_ _) | (refine Keeps.put ?_ (by assumption) (by simp only [n_bump, n_put, n_touch, n_kill] at *; omega)))) (by simp only [n_bump, n_put, n_touch, n_kill] at *; omega) (fun g hg => .inr hg)
        repeat (first | (refine aw_seq ?_) | (refine aw_reg0 (by simp only [SZ, Nat.reduceAdd]; exact rfl) ?_) | (refine aw_reg (by decide +kernel) (by simp only [SZ, Nat.reduceAdd]; exact rfl) ?_) | (refine aw_regS (by decide +kernel) (by simp only [SZ, Nat.reduceAdd]; exact rfl) ?_) | (refine arl_nil ?_) | (refine aw_skip ?_) | (refine aw_block ?_) | (refine aw_exit ?_) | (refine aw_ret ?_) | (refine arl_cons rfl rfl (by simp +decide only [aop, abuiltin, aeval, aintBin, bin_int, aload_bump, SS, reduceIte, reduceCtorEq, f0, hws1, htd, hwt, f6, hwk]; exact rfl) (by first | rfl | with_reducible assumption) rfl ?_) | (refine arl_none rfl rfl (by simp +decide only [aop, abuiltin, aeval, aintBin, bin_int, aload_bump, SS, reduceIte, reduceCtorEq, f0, hws1, htd, hwt, f6, hwk]; exact rfl) rfl rfl ?_) | (refine arl_off rfl rfl ?_) | (refine aw_condT (by simp +decide only [aop, abuiltin, aeval, aintBin, bin_int, aload_bump, SS, reduceIte, reduceCtorEq, f0, hws1, htd, hwt, f6, hwk]; first | done | exact rfl) ?_) | (refine aw_condF (by simp +decide only [aop, abuiltin, aeval, aintBin, bin_int, aload_bump, SS, reduceIte, reduceCtorEq, f0, hws1, htd, hwt, f6, hwk]; first | done | exact rfl) ?_))
        exact ⟨n - (k + 1), by omega, hE2.trans (by repeat (first | exact Keeps.refl _ _ | (refine Keeps.bumpR ?_ _))), k + 1, by omega, rfl, rfl, f1, rfl, by rw [lows_succ]; exact hO2.up (by repeat (first | exact Keeps.refl _ _ | (refine Keeps.bumpR ?_ _)))⟩
      · have hd2 : decide ((v / 256 ^ k).tmod 256 < 0) = false := decide_eq_false hneg
        rw [if_neg hneg] at hfix
        rw [hfix] at hd2
        repeat (first | (refine aw_seq ?_) | (refine aw_reg0 (by simp only [SZ, Nat.reduceAdd]; exact rfl) ?_) | (refine aw_reg (by decide +kernel) (by simp only [SZ, Nat.reduceAdd]; exact rfl) ?_) | (refine aw_regS (by decide +kernel) (by simp only [SZ, Nat.reduceAdd]; exact rfl) ?_) | (refine arl_nil ?_) | (refine aw_skip ?_) | (refine aw_block ?_) | (refine aw_exit ?_) | (refine aw_ret ?_) | (refine arl_cons rfl rfl (by simp +decide only [aop, abuiltin, aeval, aintBin, bin_int, aload_bump, SS, reduceIte, reduceCtorEq, f6, f1, hd, f0, hfix, hd2, conv_int Try.underlying2 Try.underlying5, hwd, lit1]; exact rfl) (by first | rfl | with_reducible assumption) rfl ?_) | (refine arl_none rfl rfl (by simp +decide only [aop, abuiltin, aeval, aintBin, bin_int, aload_bump, SS, reduceIte, reduceCtorEq, f6, f1, hd, f0, hfix, hd2, conv_int Try.underlying2 Try.underlying5, hwd, lit1]; exact rfl) rfl rfl ?_) | (refine arl_off rfl rfl ?_) | (refine aw_condT (by simp +decide only [aop, abuiltin, aeval, aintBin, bin_int, aload_bump, SS, reduceIte, reduceCtorEq, f6, f1, hd, f0, hfix, hd2, conv_int Try.underlying2 Try.underlying5, hwd, lit1]; first | done | exact rfl) ?_) | (refine aw_condF (by simp +decide only [aop, abuiltin, aeval, aintBin, bin_int, aload_bump, SS, reduceIte, reduceCtorEq, f6, f1, hd, f0, hfix, hd2, conv_int Try.underlying2 Try.underlying5, hwd, lit1]; first | done | exact rfl) ?_))
        refine arl_app (K := fun g => st.n ≤ g) (K' := fun _ => True) (xs := lows v k) (ns := [(v / 256 ^ k) % 256]) rfl rfl rfl (hO.up (by repeat (first | assumption | exact Keeps.refl _ _ | (refine Keeps.bumpR ?_ _) | (refine Keeps.put ?_ (by assumption) (by simp only [n_bump, n_put, n_touch, n_kill] at *; omega))))) (RdB.lit _ _ _ [_]) (by simp only [n_bump, n_put, n_touch, n_kill] at *; omega) (by simp [lows_len]; omega) ?_
        intro y s2 hO2 hn2 hK2
        have hys := hO2.solid
        have hE2 : Ext st s2 := hK2 _ st hw (by repeat (first | assumption | exact Keeps.refl _ _ | (refine Keeps.bumpR ?_ _) | (refine Keeps.put ?_ (by assumption) (by simp only [n_bump, n_put, n_touch, n_kill] at *; omega)))) (by simp only [n_bump, n_put, n_touch, n_kill] at *; omega) (fun g hg => .inr hg)
        repeat (first | (refine aw_seq ?_) | (refine aw_reg0 (by simp only [SZ, Nat.reduceAdd]; exact rfl) ?_) | (refine aw_reg (by decide +kernel) (by simp only [SZ, Nat.reduceAdd]; exact rfl) ?_) | (refine aw_regS (by decide +kernel) (by simp only [SZ, Nat.reduceAdd]; exact rfl) ?_) | (refine arl_nil ?_) | (refine aw_skip ?_) | (refine aw_block ?_) | (refine aw_exit ?_) | (refine aw_ret ?_) | (refine arl_cons rfl rfl (by simp +decide only [aop, abuiltin, aeval, aintBin, bin_int, aload_bump, SS, reduceIte, reduceCtorEq, f0, hws1, htd, hwt, f6, hwk]; exact rfl) (by first | rfl | with_reducible assumption) rfl ?_) | (refine arl_none rfl rfl (by simp +decide only [aop, abuiltin, aeval, aintBin, bin_int, aload_bump, SS, reduceIte, reduceCtorEq, f0, hws1, htd, hwt, f6, hwk]; exact rfl) rfl rfl ?_) | (refine arl_off rfl rfl ?_) | (refine aw_condT (by simp +decide only [aop, abuiltin, aeval, aintBin, bin_int, aload_bump, SS, reduceIte, reduceCtorEq, f0, hws1, htd, hwt, f6, hwk]; first | done | exact rfl) ?_) | (refine aw_condF (by simp +decide only [aop, abuiltin, aeval, aintBin, bin_int, aload_bump, SS, reduceIte, reduceCtorEq, f0, hws1, htd, hwt, f6, hwk]; first | done | exact rfl) ?_))
        exact ⟨n - (k + 1), by omega, hE2.trans (by repeat (first | exact Keeps.refl _ _ | (refine Keeps.bumpR ?_ _))), k + 1, by omega, rfl, rfl, f1, rfl, by rw [lows_succ]; exact hO2.up (by repeat (first | exact Keeps.refl _ _ | (refine Keeps.bumpR ?_ _)))⟩
    · have hd : decide ((k : Int) < (n : Int)) = false := decide_eq_false (by omega)
      obtain rfl : k = n := by omega
      repeat (first | (refine aw_seq ?_) | (refine aw_reg0 (by simp only [SZ, Nat.reduceAdd]; exact rfl) ?_) | (refine aw_reg (by decide +kernel) (by simp only [SZ, Nat.reduceAdd]; exact rfl) ?_) | (refine aw_regS (by decide +kernel) (by simp only [SZ, Nat.reduceAdd]; exact rfl) ?_) | (refine arl_nil ?_) | (refine aw_skip ?_) | (refine aw_block ?_) | (refine aw_exit ?_) | (refine aw_ret ?_) | (refine arl_cons rfl rfl (by simp +decide only [aop, abuiltin, aeval, aintBin, bin_int, aload_bump, SS, reduceIte, reduceCtorEq, f6, f1, hd]; exact rfl) (by first | rfl | with_reducible assumption) rfl ?_) | (refine arl_none rfl rfl (by simp +decide only [aop, abuiltin, aeval, aintBin, bin_int, aload_bump, SS, reduceIte, reduceCtorEq, f6, f1, hd]; exact rfl) rfl rfl ?_) | (refine arl_off rfl rfl ?_) | (refine aw_condT (by simp +decide only [aop, abuiltin, aeval, aintBin, bin_int, aload_bump, SS, reduceIte, reduceCtorEq, f6, f1, hd]; first | done | exact rfl) ?_) | (refine aw_condF (by simp +decide only [aop, abuiltin, aeval, aintBin, bin_int, aload_bump, SS, reduceIte, reduceCtorEq, f6, f1, hd]; first | done | exact rfl) ?_))
      exact ⟨rfl, hE.trans (by repeat (first | exact Keeps.refl _ _ | (refine Keeps.bumpR ?_ _))), f1, hO.up (by repeat (first | exact Keeps.refl _ _ | (refine Keeps.bumpR ?_ _)))⟩
  · exact ⟨(by repeat (first | assumption | exact Keeps.refl _ _ | (refine Keeps.bumpR ?_ _) | (refine Keeps.put ?_ (by assumption) (by simp only [n_bump, n_put, n_touch, n_kill] at *; omega)))), 0, by omega, rfl, (by show i64 v = _; simp), rfl, rfl, .inr ⟨_, _, rfl, get_put _ _, (by simp only [n_bump, n_put, n_touch, n_kill] at *; omega)⟩⟩
  rintro e fr s1 ⟨hw1, hn1, rfl, hE1, f1, hL⟩
  have hN1 := hE1.n
  have hls := hL.solid
  obtain ⟨lo, f5⟩ : ∃ lo, fr 5 = lo := ⟨_, rfl⟩
  rw [f5] at hL hls
  replace hL := hL.lt hw1
  have hwn : IntKind.i64.wrap ((n : Int) - 1) = (n : Int) - 1 - ((0 : Nat) : Int) := by rw [wrap64_of (by omega) (by omega)]; omega
  repeat (first | (refine aw_seq ?_) | (refine aw_reg0 (by simp only [SZ, Nat.reduceAdd]; exact rfl) ?_) | (refine aw_reg (by decide +kernel) (by simp only [SZ, Nat.reduceAdd]; exact rfl) ?_) | (refine aw_regS (by decide +kernel) (by simp only [SZ, Nat.reduceAdd]; exact rfl) ?_) | (refine arl_nil ?_) | (refine aw_skip ?_) | (refine aw_block ?_) | (refine aw_exit ?_) | (refine aw_ret ?_) | (refine arl_cons rfl rfl (by simp +decide only [aop, abuiltin, aeval, aintBin, bin_int, aload_bump, SS, reduceIte, reduceCtorEq, lit0, f1, f5, hwn]; exact rfl) (by first | rfl | with_reducible assumption) rfl ?_) | (refine arl_none rfl rfl (by simp +decide only [aop, abuiltin, aeval, aintBin, bin_int, aload_bump, SS, reduceIte, reduceCtorEq, lit0, f1, f5, hwn]; exact rfl) rfl rfl ?_) | (refine arl_off rfl rfl ?_) | (refine aw_condT (by simp +decide only [aop, abuiltin, aeval, aintBin, bin_int, aload_bump, SS, reduceIte, reduceCtorEq, lit0, f1, f5, hwn]; first | done | exact rfl) ?_) | (refine aw_condF (by simp +decide only [aop, abuiltin, aeval, aintBin, bin_int, aload_bump, SS, reduceIte, reduceCtorEq, lit0, f1, f5, hwn]; first | done | exact rfl) ?_))
  refine aw_rounds_wf (fun d fr s => Ext s1 s ∧ ∃ (k : Nat), k ≤ n ∧ d = n - k ∧ fr 5 = lo ∧ fr 9 = i64 ((n : Int) - 1 - k) ∧ RdB s (fun g => g < s1.n) lo (lows v n) ∧ OwB s (fun g => s1.n ≤ g) (fr 8) ((bes v n).take k)) ?_ n _ _ (by repeat (first | assumption | (refine WF.bump ?_ _) | (refine WF.put ?_ (by simp only [n_bump, n_put, n_touch, n_kill] at *; omega) (by simp only [n_bump, n_put, n_touch, n_kill] at *; omega)))) ?_
  · rintro d fr s hws ⟨hE, k, hk, rfl, f5, f9, hR, hO⟩
    have hos := hO.solid
    have hrs := hR.solid
    have hEn := hE.n
    by_cases hlt : k < n
    · have hd : decide ((n : Int) - 1 - (k : Int) ≥ 0) = true := decide_eq_true (by omega)
      obtain ⟨p, hp1, hp2, hp3⟩ := hR.atN .i64 (n - 1 - k) (by rw [lows_len]; omega)
      rw [show ((n - 1 - k : Nat) : Int) = (n : Int) - 1 - k by omega] at hp1
      rw [lows_at _ _ _ (by omega), ← bes_at v n k hlt] at hp3
      have hwk : IntKind.i64.wrap ((n : Int) - 1 - k - 1) = (n : Int) - 1 - ((k + 1 : Nat) : Int) := by rw [wrap64_of (by omega) (by omega)]; omega
      repeat (first | (refine aw_seq ?_) | (refine aw_reg0 (by simp only [SZ, Nat.reduceAdd]; exact rfl) ?_) | (refine aw_reg (by decide +kernel) (by simp only [SZ, Nat.reduceAdd]; exact rfl) ?_) | (refine aw_regS (by decide +kernel) (by simp only [SZ, Nat.reduceAdd]; exact rfl) ?_) | (refine arl_nil ?_) | (refine aw_skip ?_) | (refine aw_block ?_) | (refine aw_exit ?_) | (refine aw_ret ?_) | (refine arl_cons rfl rfl (by simp +decide only [aop, abuiltin, aeval, aintBin, bin_int, aload_bump, SS, reduceIte, reduceCtorEq, f5, f9, hd, hp1, hp3, lit1]; exact rfl) (by first | rfl | with_reducible assumption) rfl ?_) | (refine arl_none rfl rfl (by simp +decide only [aop, abuiltin, aeval, aintBin, bin_int, aload_bump, SS, reduceIte, reduceCtorEq, f5, f9, hd, hp1, hp3, lit1]; exact rfl) rfl rfl ?_) | (refine arl_off rfl rfl ?_) | (refine aw_condT (by simp +decide only [aop, abuiltin, aeval, aintBin, bin_int, aload_bump, SS, reduceIte, reduceCtorEq, f5, f9, hd, hp1, hp3, lit1]; first | done | exact rfl) ?_) | (refine aw_condF (by simp +decide only [aop, abuiltin, aeval, aintBin, bin_int, aload_bump, SS, reduceIte, reduceCtorEq, f5, f9, hd, hp1, hp3, lit1]; first | done | exact rfl) ?_))
      refine arl_app (K := fun g => s1.n ≤ g) (K' := fun _ => True) (xs := (bes v n).take k) (ns := [(bes v n)[k]'(by rw [bes_len]; exact hlt)]) rfl rfl rfl (hO.up (by repeat (first | assumption | exact Keeps.refl _ _ | (refine Keeps.bumpR ?_ _) | (refine Keeps.put ?_ (by assumption) (by simp only [n_bump, n_put, n_touch, n_kill] at *; omega))))) (RdB.lit _ _ _ [_]) (by simp only [n_bump, n_put, n_touch, n_kill] at *; omega) (by simp [bes_len]; omega) ?_
      intro y s2 hO2 hn2 hK2
      have hys := hO2.solid
      have hE2 : Ext s1 s2 := hK2 _ s1 hw1 (by repeat (first | assumption | exact Keeps.refl _ _ | (refine Keeps.bumpR ?_ _) | (refine Keeps.put ?_ (by assumption) (by simp only [n_bump, n_put, n_touch, n_kill] at *; omega)))) (by simp only [n_bump, n_put, n_touch, n_kill] at *; omega) (fun g hg => .inr hg)
      have hK3 : Keeps (fun g => s1.n ≤ g) s s2 := hK2 _ s hws (by repeat (first | assumption | exact Keeps.refl _ _ | (refine Keeps.bumpR ?_ _) | (refine Keeps.put ?_ (by assumption) (by simp only [n_bump, n_put, n_touch, n_kill] at *; omega)))) (by simp only [n_bump, n_put, n_touch, n_kill] at *; omega) (fun g hg => .inl hg)
      repeat (first | (refine aw_seq ?_) | (refine aw_reg0 (by simp only [SZ, Nat.reduceAdd]; exact rfl) ?_) | (refine aw_reg (by decide +kernel) (by simp only [SZ, Nat.reduceAdd]; exact rfl) ?_) | (refine aw_regS (by decide +kernel) (by simp only [SZ, Nat.reduceAdd]; exact rfl) ?_) | (refine arl_nil ?_) | (refine aw_skip ?_) | (refine aw_block ?_) | (refine aw_exit ?_) | (refine aw_ret ?_) | (refine arl_cons rfl rfl (by simp +decide only [aop, abuiltin, aeval, aintBin, bin_int, aload_bump, SS, reduceIte, reduceCtorEq, f9, hwk]; exact rfl) (by first | rfl | with_reducible assumption) rfl ?_) | (refine arl_none rfl rfl (by simp +decide only [aop, abuiltin, aeval, aintBin, bin_int, aload_bump, SS, reduceIte, reduceCtorEq, f9, hwk]; exact rfl) rfl rfl ?_) | (refine arl_off rfl rfl ?_) | (refine aw_condT (by simp +decide only [aop, abuiltin, aeval, aintBin, bin_int, aload_bump, SS, reduceIte, reduceCtorEq, f9, hwk]; first | done | exact rfl) ?_) | (refine aw_condF (by simp +decide only [aop, abuiltin, aeval, aintBin, bin_int, aload_bump, SS, reduceIte, reduceCtorEq, f9, hwk]; first | done | exact rfl) ?_))
      refine ⟨n - (k + 1), by omega, hE2.trans (by repeat (first | exact Keeps.refl _ _ | (refine Keeps.bumpR ?_ _))), k + 1, by omega, rfl, f5, rfl, ?_, ?_⟩
      · exact (hR.keep hK3 (fun g h h' => by omega)).up (by repeat (first | exact Keeps.refl _ _ | (refine Keeps.bumpR ?_ _)))
      · rw [List.take_succ_eq_append_getElem (by rw [bes_len]; exact hlt)]
        exact hO2.up (by repeat (first | exact Keeps.refl _ _ | (refine Keeps.bumpR ?_ _)))
    · have hd : decide ((n : Int) - 1 - (k : Int) ≥ 0) = false := decide_eq_false (by omega)
      obtain rfl : k = n := by omega
      rw [List.take_of_length_le (by rw [bes_len]; exact Nat.le_refl _)] at hO
      repeat (first | (refine aw_seq ?_) | (refine aw_reg0 (by simp only [SZ, Nat.reduceAdd]; exact rfl) ?_) | (refine aw_reg (by decide +kernel) (by simp only [SZ, Nat.reduceAdd]; exact rfl) ?_) | (refine aw_regS (by decide +kernel) (by simp only [SZ, Nat.reduceAdd]; exact rfl) ?_) | (refine arl_nil ?_) | (refine aw_skip ?_) | (refine aw_block ?_) | (refine aw_exit ?_) | (refine aw_ret ?_) | (refine arl_cons rfl rfl (by simp +decide only [aop, abuiltin, aeval, aintBin, bin_int, aload_bump, SS, reduceIte, reduceCtorEq, f9, hd]; exact rfl) (by first | rfl | with_reducible assumption) rfl ?_) | (refine arl_none rfl rfl (by simp +decide only [aop, abuiltin, aeval, aintBin, bin_int, aload_bump, SS, reduceIte, reduceCtorEq, f9, hd]; exact rfl) rfl rfl ?_) | (refine arl_off rfl rfl ?_) | (refine aw_condT (by simp +decide only [aop, abuiltin, aeval, aintBin, bin_int, aload_bump, SS, reduceIte, reduceCtorEq, f9, hd]; first | done | exact rfl) ?_) | (refine aw_condF (by simp +decide only [aop, abuiltin, aeval, aintBin, bin_int, aload_bump, SS, reduceIte, reduceCtorEq, f9, hd]; first | done | exact rfl) ?_))
      exact ⟨.inr rfl, _, rfl, (hE1.trans hE).trans (by repeat (first | exact Keeps.refl _ _ | (refine Keeps.bumpR ?_ _))), hos, (hO.mono (fun g h => by omega)).up (by repeat (first | exact Keeps.refl _ _ | (refine Keeps.bumpR ?_ _)))⟩
  · exact ⟨(by repeat (first | assumption | exact Keeps.refl _ _ | (refine Keeps.bumpR ?_ _) | (refine Keeps.put ?_ (by assumption) (by simp only [n_bump, n_put, n_touch, n_kill] at *; omega)))), 0, by omega, rfl, f5, (by show i64 _ = _; simp), (hL.rd.mono (fun g h => h.2)).up (by repeat (first | assumption | exact Keeps.refl _ _ | (refine Keeps.bumpR ?_ _) | (refine Keeps.put ?_ (by assumption) (by simp only [n_bump, n_put, n_touch, n_kill] at *; omega)))), .inr ⟨_, _, rfl, get_put _ _, (by simp only [n_bump, n_put, n_touch, n_kill] at *; omega)⟩⟩
end Go.Proofs.Ytoccmjhgmoandaa.Ra
