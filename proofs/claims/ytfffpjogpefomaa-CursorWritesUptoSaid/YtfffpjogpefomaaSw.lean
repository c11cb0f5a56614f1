/- leatlaw01.CursorThere. -/
import Derived.Test.YtfffpjogpefomaaSv
namespace Go.Proofs.Ytfffpjogpefomaa.Ra
open Go Go.RowKit
set_option linter.unusedVariables false
set_option linter.unusedSimpArgs false
set_option maxRecDepth 10000
/- The bytes of a number are read back. -/
theorem bes_snoc (x : Int) (n : Nat) : bes x (n + 1) = bes (x / 256) n ++ [x % 256] := by
  simp only [bes, List.range_succ, List.map_append, List.map_cons, List.map_nil]
  congr 1
  · apply List.map_congr_left
    intro i hi
    have hi' : i < n := List.mem_range.1 hi
    rw [Int.ediv_ediv_of_nonneg (by decide)]
    congr 2
    rw [show 8 * (n + 1 - 1 - i) = 8 * (n - 1 - i) + 8 by omega, Int.pow_add]
    omega
  · simp
theorem val_bes (n : Nat) : ∀ x : Int, 0 ≤ x → val (bes x n) = x % 256 ^ n := by
  induction n with
  | zero => intro x hx; simp [bes, val]
  | succ n ih =>
    intro x hx
    rw [bes_snoc, val_snoc, ih (x / 256) (by omega)]
    have h2 : x / 256 / 256 ^ n = x / (256 * 256 ^ n) := Int.ediv_ediv_of_nonneg (by decide)
    rw [Int.pow_succ, Int.mul_comm (256 ^ n) 256, Int.emod_def (x / 256), Int.emod_def x (256 * 256 ^ n), h2, Int.mul_assoc]
    generalize 256 ^ n * (x / (256 * 256 ^ n)) = t
    omega
theorem bes_by (x : Int) (n : Nat) : ∀ y ∈ bes x n, 0 ≤ y ∧ y < 256 := by
  intro y hy
  obtain ⟨i, _, rfl⟩ := List.mem_map.1 hy
  omega
theorem sval_bes (m : Nat) (v : Int) (hm : m < 8) (hv : -(128 * 256 ^ m) ≤ v ∧ v < 128 * 256 ^ m) : sval (bes (IntKind.u64.wrap v) (m + 1)) = v := by
  have h1 := sval_bound m (bes (IntKind.u64.wrap v) (m + 1)) (bes_len _ _) (bes_by _ _)
  have h2 := val_sval m (bes (IntKind.u64.wrap v) (m + 1)) (bes_len _ _)
  rw [val_bes _ _ (by rw [wrapU64]; omega)] at h2
  simp only [wrapU64] at h1 h2 ⊢
  have hp : (256 : Int) ^ (m + 1) ∣ 18446744073709551616 := by
    have : (18446744073709551616 : Int) = 256 ^ (m + 1) * 256 ^ (7 - m) := by rw [← Int.pow_add, show m + 1 + (7 - m) = 8 by omega]; rfl
    exact ⟨_, this⟩
  rw [Int.emod_emod_of_dvd _ hp] at h2
  have h3 : (256 : Int) ^ (m + 1) = 256 * 256 ^ m := by rw [Int.pow_succ, Int.mul_comm]
  have h4 := Int.emod_add_mul_ediv v (256 ^ (m + 1))
  have h5 : (0 : Int) < 256 ^ m := Int.pow_pos (by decide)
  rw [h3] at h2 h4
  generalize sval (bes (v % 18446744073709551616) (m + 1)) = s at *
  generalize (256 : Int) ^ m = p at *
  generalize hq : v / (256 * p) = q at *
  have h6 := Int.emod_nonneg v (show (256 * p : Int) ≠ 0 by omega)
  have h7 := Int.emod_lt_of_pos v (show (0 : Int) < 256 * p by omega)
  generalize v % (256 * p) = r at *
  have hq1 : q ≤ 0 := Int.not_lt.1 fun hlt => by
    have h8 : 256 * p * 1 ≤ 256 * p * q := Int.mul_le_mul_of_nonneg_left (by omega) (by omega)
    omega
  have hq2 : -1 ≤ q := Int.not_lt.1 fun hlt => by
    have h8 : 256 * p * q ≤ 256 * p * (-2) := Int.mul_le_mul_of_nonneg_left (by omega) (by omega)
    omega
  have hq3 : q = 0 ∨ q = -1 := by omega
  rcases hq3 with rfl | rfl
  · rw [Int.mul_zero] at h4
    omega
  · rw [Int.mul_neg, Int.mul_one] at h4
    omega
theorem cut_sval {v : Int} (n : Nat) (hn : n = 1 ∨ n = 2 ∨ n = 4 ∨ n = 8) (hv : -9223372036854775808 ≤ v ∧ v ≤ 9223372036854775807) : sval (bes (IntKind.u64.wrap (cutv v n)) n) = cutv v n := by
  rcases hn with rfl | rfl | rfl | rfl
  · refine sval_bes 0 _ (by omega) ?_
    simp only [cutv, Int.natCast_one, if_true, w8]
    simp [IntKind.wrap, IntKind.bits, IntKind.signed]; omega
  · refine sval_bes 1 _ (by omega) ?_
    rw [show cutv v ((2 : Nat) : Int) = IntKind.i16.wrap v by simp [cutv, w16]]
    simp [IntKind.wrap, IntKind.bits, IntKind.signed]; omega
  · refine sval_bes 3 _ (by omega) ?_
    rw [show cutv v ((4 : Nat) : Int) = IntKind.i32.wrap v by simp [cutv, w32]]
    simp [IntKind.wrap, IntKind.bits, IntKind.signed]; omega
  · refine sval_bes 7 _ (by omega) ?_
    rw [show cutv v ((8 : Nat) : Int) = v by simp [cutv]]
    simp; omega
def numO (o : OpT) : Prop := ∃ m : Nat, o.1 = m ∧ (m = 1 ∨ m = 2 ∨ m = 4 ∨ m = 8)
def encO (o : OpT) : List Int := if o.1 = 15 then o.2.2.2.headD [] else bes (IntKind.u64.wrap (cutv o.2.2.1 o.1)) o.1.toNat
def okO (o : OpT) : Prop := numO o ∨ (o.1 = 15 ∧ ∃ p, o.2.2.2 = [p])
theorem flat_at {α : Type} (f : α → List Int) (xs : List α) (k : Nat) (hk : k < xs.length) : ((xs.map f).flatten.drop ((xs.take k).map f).flatten.length).take (f xs[k]).length = f xs[k] := by
  have h : (xs.map f).flatten = ((xs.take k).map f).flatten ++ (f xs[k] ++ ((xs.drop (k + 1)).map f).flatten) := by
    have e : xs.map f = (xs.take k).map f ++ (f xs[k] :: (xs.drop (k + 1)).map f) := by
      rw [← List.map_cons, ← List.drop_eq_getElem_cons hk, ← List.map_append, List.take_append_drop]
    rw [e, List.flatten_append, List.flatten_cons]
  rw [h, List.drop_left, List.take_left]
theorem flat_step {α : Type} (f : α → List Int) (xs : List α) (k : Nat) (hk : k < xs.length) : ((xs.take (k + 1)).map f).flatten = ((xs.take k).map f).flatten ++ f xs[k] := by
  rw [List.take_succ_eq_append_getElem hk, List.map_append, List.flatten_append]
  simp
theorem litOp1 (id : Nat) (a b c : Int) (pv : AV) : abuildSlice Try.prog 31 id 1 [(0, .agg [i64 a, i64 b, i64 c, pv])] = some (.sl id 0 1 4, ⟨[i64 a, i64 b, i64 c, pv], OP, true, id⟩) := lit_one TOP id (.agg [i64 a, i64 b, i64 c, pv]) rfl rfl (by decide)
theorem litOp0 (id : Nat) : abuildSlice Try.prog 31 id 0 [] = some (.sl id 0 0 4, ⟨[], OP, true, id⟩) := lit_none TOP id
theorem litB1 {st : St} {K : Nat → Prop} {x : AV} {ys : List Int} (hl : RdB st K x ys) (id : Nat) : abuildSlice Try.prog 22 id 1 [(0, x)] = some (.sl id 0 1 1, ⟨[x], 24, true, id⟩) := litR1 hl id
set_option maxHeartbeats 8000000 in
theorem there_ok {st : St} (hw : WF st) {v : AV} {os : List OpT} (hv : RdE opK st (fun _ => True) v os) (hol : os.length ≤ 1048576) (hpl : ∀ o ∈ os, ∀ p ∈ o.2.2.2, p.length ≤ 1048576 ∧ ∀ x ∈ p, 0 ≤ x ∧ x < 256) (hn : ∀ o ∈ os, -9223372036854775808 ≤ o.2.2.1 ∧ o.2.2.1 ≤ 9223372036854775807) :
    ACalls Try.prog 7 [v] st (fun r s => r = .pl (.bool true)) := by
  replace hv := hv.lt hw
  have hvs := hv.solid
  refine acalls_of Try.func7 rfl (by kernel_rfl) (by simp [hvs]) ?_
  repeat (first | (refine aw_seq ?_) | (refine aw_reg0 (by simp only [SZ, Nat.reduceAdd]; exact rfl) ?_) | (refine aw_reg (by decide +kernel) (by simp only [SZ, Nat.reduceAdd]; exact rfl) ?_) | (refine aw_regS (by decide +kernel) (by simp only [SZ, Nat.reduceAdd]; exact rfl) ?_) | (refine arl_nil ?_) | (refine aw_skip ?_) | (refine aw_block ?_) | (refine aw_exit ?_) | (refine aw_ret ?_) | (refine arl_cons rfl rfl (by simp +decide only [aop, abuiltin, aeval, aintBin, bin_int, aload_bump, SS, reduceIte, reduceCtorEq]; exact rfl) (by first | rfl | assumption) rfl ?_) | (refine arl_none rfl rfl (by simp +decide only [aop, abuiltin, aeval, aintBin, bin_int, aload_bump, SS, reduceIte, reduceCtorEq]; exact rfl) rfl rfl ?_) | (refine arl_off rfl rfl ?_) | (refine aw_condT (by simp +decide only [aop, abuiltin, aeval, aintBin, bin_int, aload_bump, SS, reduceIte, reduceCtorEq]; first | done | exact rfl) ?_) | (refine aw_condF (by simp +decide only [aop, abuiltin, aeval, aintBin, bin_int, aload_bump, SS, reduceIte, reduceCtorEq]; first | done | exact rfl) ?_))
  refine arl_call rfl rfl rfl rfl rfl rfl ((newWriter_ok (by repeat (first | assumption | (refine WF.bump ?_ _))) 1048576).wf (by repeat (first | assumption | (refine WF.bump ?_ _) | (refine WF.put ?_ (by simp only [n_bump, n_put, n_touch, n_kill] at *; omega) (by simp only [n_bump, n_put, n_touch, n_kill] at *; omega)))) |>.mono ?_)
  rintro w s1 ⟨hw1, hn1, hE1, hws, hW⟩
  refine ⟨by first | rfl | assumption, ?_⟩
  replace hE1 : Ext st s1 := Keeps.trans (by repeat (first | assumption | exact Keeps.refl _ _ | (refine Keeps.bumpR ?_ _) | (refine Keeps.put ?_ (by assumption) (by simp only [n_bump, n_put, n_touch, n_kill] at *; omega)))) hE1
  have hN1 := hE1.n
  rw [show clampW 1048576 = 1048576 from rfl] at hW
  have hpw := hW.ne_nil Try.underlying32
  repeat (first | (refine aw_seq ?_) | (refine aw_reg0 (by simp only [SZ, Nat.reduceAdd]; exact rfl) ?_) | (refine aw_reg (by decide +kernel) (by simp only [SZ, Nat.reduceAdd]; exact rfl) ?_) | (refine aw_regS (by decide +kernel) (by simp only [SZ, Nat.reduceAdd]; exact rfl) ?_) | (refine arl_nil ?_) | (refine aw_skip ?_) | (refine aw_block ?_) | (refine aw_exit ?_) | (refine aw_ret ?_) | (refine arl_cons rfl rfl (by simp +decide only [aop, abuiltin, aeval, aintBin, bin_int, aload_bump, SS, reduceIte, reduceCtorEq, hpw]; exact rfl) (by first | rfl | assumption) rfl ?_) | (refine arl_none rfl rfl (by simp +decide only [aop, abuiltin, aeval, aintBin, bin_int, aload_bump, SS, reduceIte, reduceCtorEq, hpw]; exact rfl) rfl rfl ?_) | (refine arl_off rfl rfl ?_) | (refine aw_condT (by simp +decide only [aop, abuiltin, aeval, aintBin, bin_int, aload_bump, SS, reduceIte, reduceCtorEq, hpw]; first | done | exact rfl) ?_) | (refine aw_condF (by simp +decide only [aop, abuiltin, aeval, aintBin, bin_int, aload_bump, SS, reduceIte, reduceCtorEq, hpw]; first | done | exact rfl) ?_))
  refine arl_call rfl rfl rfl rfl rfl rfl ((alive_ok (by repeat (first | assumption | (refine WF.bump ?_ _)))).wf (by repeat (first | assumption | (refine WF.bump ?_ _) | (refine WF.put ?_ (by simp only [n_bump, n_put, n_touch, n_kill] at *; omega) (by simp only [n_bump, n_put, n_touch, n_kill] at *; omega)))) |>.mono ?_)
  rintro r s2 ⟨hw2, hn2, hE2, rfl⟩
  refine ⟨by first | rfl | assumption, ?_⟩
  replace hE2 : Ext s1 s2 := Keeps.trans (by repeat (first | assumption | exact Keeps.refl _ _ | (refine Keeps.bumpR ?_ _) | (refine Keeps.put ?_ (by assumption) (by simp only [n_bump, n_put, n_touch, n_kill] at *; omega)))) hE2
  have hN2 := hE2.n
  replace hW := hW.up hE2
  replace hE2 := hE1.trans hE2
  replace hN2 := hE2.n
  have hln := RdE.len hv TOP
  have hW2 := hW.lt hw2
  repeat (first | (refine aw_seq ?_) | (refine aw_reg0 (by simp only [SZ, Nat.reduceAdd]; exact rfl) ?_) | (refine aw_reg (by decide +kernel) (by simp only [SZ, Nat.reduceAdd]; exact rfl) ?_) | (refine aw_regS (by decide +kernel) (by simp only [SZ, Nat.reduceAdd]; exact rfl) ?_) | (refine arl_nil ?_) | (refine aw_skip ?_) | (refine aw_block ?_) | (refine aw_exit ?_) | (refine aw_ret ?_) | (refine arl_cons rfl rfl (by simp +decide only [aop, abuiltin, aeval, aintBin, bin_int, aload_bump, SS, reduceIte, reduceCtorEq, hln, litOp0]; exact rfl) (by first | rfl | assumption) rfl ?_) | (refine arl_none rfl rfl (by simp +decide only [aop, abuiltin, aeval, aintBin, bin_int, aload_bump, SS, reduceIte, reduceCtorEq, hln, litOp0]; exact rfl) rfl rfl ?_) | (refine arl_off rfl rfl ?_) | (refine aw_condT (by simp +decide only [aop, abuiltin, aeval, aintBin, bin_int, aload_bump, SS, reduceIte, reduceCtorEq, hln, litOp0]; first | done | exact rfl) ?_) | (refine aw_condF (by simp +decide only [aop, abuiltin, aeval, aintBin, bin_int, aload_bump, SS, reduceIte, reduceCtorEq, hln, litOp0]; first | done | exact rfl) ?_))
  refine AW.mono (AW.wf (aw_rounds_wf (fun d fr s => Ext st s ∧ ∃ (k : Nat) (kept : List OpT), k ≤ os.length ∧ d = os.length - k ∧ fr 3 = w ∧ fr 23 = v ∧ fr 24 = i64 os.length ∧ fr 25 = i64 k ∧ (∀ o ∈ kept, o ∈ os ∧ okO o) ∧ kept.length ≤ k ∧ s2.n < s.n ∧ (kept.map encO).flatten.length ≤ 1048576 ∧ BxO s (fun g => st.n ≤ g ∧ g ≠ s2.n) WR w (kept.map encO).flatten 1048576 ∧
        OwX opK s (fun g => g = s2.n) (fun _ g => g < st.n) OP (fr 4) kept ∧ fr 4 ≠ .pl (.slice none 0 0))
    (Q := fun e fr s => e = .exit 0 ∧ Ext st s ∧ ∃ (kept : List OpT), fr 3 = w ∧ (∀ o ∈ kept, o ∈ os ∧ okO o) ∧ kept.length ≤ os.length ∧ (kept.map encO).flatten.length ≤ 1048576 ∧ BxO s (fun g => st.n ≤ g ∧ g ≠ s2.n) WR w (kept.map encO).flatten 1048576 ∧
        OwX opK s (fun g => g = s2.n) (fun _ g => g < st.n) OP (fr 4) kept) ?_ os.length _ _ (by repeat (first | assumption | (refine WF.bump ?_ _) | (refine WF.put ?_ (by simp only [n_bump, n_put, n_touch, n_kill] at *; omega) (by simp only [n_bump, n_put, n_touch, n_kill] at *; omega)))) ?_) (by repeat (first | assumption | (refine WF.bump ?_ _) | (refine WF.put ?_ (by simp only [n_bump, n_put, n_touch, n_kill] at *; omega) (by simp only [n_bump, n_put, n_touch, n_kill] at *; omega))))) ?_
  · rintro d fr s hws ⟨hE, k, kept, hk, rfl, f3, f23, f24, f25, hkept, hkl, hsn, hfl, hB, hO, hnn⟩
    have hEn := hE.n
    have hkp := hO.solid
    by_cases hlt : k < os.length
    · have hd : decide ((k : Int) < (os.length : Int)) = true := decide_eq_true (by omega)
      obtain ⟨q, pv, hp1, hp2, hp3, hp4, hp5, hp6⟩ := op_load hv k hlt
      replace hp3 := aload_up hE hp3
      replace hp4 := hp4.mono (K' := fun g => g < st.n) (fun g h => h.2)
      repeat (first | (refine aw_seq ?_) | (refine aw_reg0 (by simp only [SZ, Nat.reduceAdd]; exact rfl) ?_) | (refine aw_reg (by decide +kernel) (by simp only [SZ, Nat.reduceAdd]; exact rfl) ?_) | (refine aw_regS (by decide +kernel) (by simp only [SZ, Nat.reduceAdd]; exact rfl) ?_) | (refine arl_nil ?_) | (refine aw_skip ?_) | (refine aw_block ?_) | (refine aw_exit ?_) | (refine aw_ret ?_))
      repeat (first | (refine aw_seq ?_) | (refine aw_reg0 (by simp only [SZ, Nat.reduceAdd]; exact rfl) ?_) | (refine aw_reg (by decide +kernel) (by simp only [SZ, Nat.reduceAdd]; exact rfl) ?_) | (refine aw_regS (by decide +kernel) (by simp only [SZ, Nat.reduceAdd]; exact rfl) ?_) | (refine arl_nil ?_) | (refine aw_skip ?_) | (refine aw_block ?_) | (refine aw_exit ?_) | (refine aw_ret ?_) | (refine arl_cons rfl rfl (by simp +decide only [aop, abuiltin, aeval, aintBin, bin_int, aload_bump, SS, reduceIte, reduceCtorEq, f24, f25, hd]; exact rfl) (by first | rfl | assumption) rfl ?_) | (refine arl_none rfl rfl (by simp +decide only [aop, abuiltin, aeval, aintBin, bin_int, aload_bump, SS, reduceIte, reduceCtorEq, f24, f25, hd]; exact rfl) rfl rfl ?_) | (refine arl_off rfl rfl ?_) | (refine aw_condT (by simp +decide only [aop, abuiltin, aeval, aintBin, bin_int, aload_bump, SS, reduceIte, reduceCtorEq, f24, f25, hd]; first | done | exact rfl) ?_) | (refine aw_condF (by simp +decide only [aop, abuiltin, aeval, aintBin, bin_int, aload_bump, SS, reduceIte, reduceCtorEq, f24, f25, hd]; first | done | exact rfl) ?_))
      refine arl_cons rfl rfl (by simp +decide only [aop, abuiltin, aeval, aintBin, bin_int, aload_bump, SS, reduceIte, reduceCtorEq, f23, f25, hp1]; exact rfl) (by first | rfl | assumption) rfl ?_
      refine arl_cons rfl rfl (by simp +decide only [aop, abuiltin, aeval, aintBin, bin_int, aload_bump, SS, reduceIte, reduceCtorEq, hp3]; exact rfl) (by first | rfl | assumption) rfl ?_
      refine arl_alloc rfl rfl rfl szOP zOP (fresh hws (by simp only [n_bump]; omega)) ?_
      intro s3 hn3 hwf3 hE3 hg3 hD3
      have hw3 : WF s3 := hwf3 (by repeat (first | assumption | (refine WF.bump ?_ _))) (by simp only [n_bump, n_put, n_touch, n_kill] at *; omega)
      refine arl_storeW (e := OP) (cs := [i64 os[k].1, i64 os[k].2.1, i64 os[k].2.2.1, pv]) rfl rfl rfl rfl rfl hg3 szOP rfl rfl rfl (by simp [hp6]; exact ⟨rfl, rfl, rfl⟩) rfl ?_
      intro s4 hn4 hwf4 hE4 hg4 hD4
      have hw4 : WF s4 := hwf4 hw3
      replace hE4 : Ext s s4 := Keeps.call ((show Ext s _ from (by repeat (first | exact Keeps.refl _ _ | (refine Keeps.bumpR ?_ _)))).trans hE3) hE4 hws (by simp only [n_bump]; intro g h; right; omega)
      have hN4 := hE4.n
      have hid4 : (s.bump 1).n + 2 < s4.n := by simp only [n_bump] at *; omega
      obtain ⟨o0, o1, o2, o3⟩ := opLd hg4
      have hB4 := ((hB.lt hws).mono (K' := (fun g => st.n ≤ g ∧ g ≠ s2.n ∧ g ≠ (s.bump 1).n + 2)) (fun g h => ⟨h.1.1, h.1.2, by have := h.2; simp only [n_bump]; omega⟩)).up hE4
      have hO4 := hO.up hE4
      refine arl_nil ?_
      refine aw_seq ?_
      refine aw_reg (by kernel_rfl) (by simp only [SZ, Nat.reduceAdd]; exact rfl) ?_
      refine arl_cons rfl rfl (by simp +decide only [aop, abuiltin, aeval, aintBin, bin_int, aload_bump, SS, reduceIte, reduceCtorEq]; exact rfl) (by first | rfl | assumption) rfl ?_
      refine arl_nil ?_
      refine aw_cut (M := fun e fr' s' => e = .normal ∧ WF s' ∧ Ext st s' ∧ s4.n ≤ s'.n ∧ fr' 3 = w ∧ fr' 4 = fr 4 ∧ fr' 6 = .ptr ((s.bump 1).n + 2) 0 ∧ fr' 23 = v ∧ fr' 24 = i64 os.length ∧ fr' 25 = i64 k ∧ s'.get ((s.bump 1).n + 2) = some ⟨[i64 os[k].1, i64 os[k].2.1, i64 os[k].2.2.1, pv], OP, true, ((s.bump 1).n + 2)⟩ ∧ OwX opK s' (fun g => g = s2.n) (fun _ g => g < st.n) OP (fr 4) kept ∧ ∃ (z : Int) (ys : List Int), fr' 7 = i64 z ∧ ys.length ≤ 1048576 ∧ BxO s' (fun g => st.n ≤ g ∧ g ≠ s2.n ∧ g ≠ (s.bump 1).n + 2) WR w ys 1048576 ∧ ((numO os[k] ∧ ((z = 0 ∧ ys = (kept.map encO).flatten ++ encO os[k]) ∨ (z = 10 ∧ ys = (kept.map encO).flatten))) ∨ (¬ numO os[k] ∧ z = 10 ∧ ys = (kept.map encO).flatten))) ?_ ?_
      · by_cases hnum : numO os[k]
        · have hnum' := hnum
          obtain ⟨m, hm, hm4⟩ := hnum
          have henc : encO os[k] = bes (IntKind.u64.wrap (cutv os[k].2.2.1 m)) m := by
            unfold encO
            rw [if_neg (by rw [hm]; omega), hm, Int.toNat_natCast]
          rw [hm] at o0
          rcases hm4 with rfl | rfl | rfl | rfl
          · repeat (first | (refine aw_seq ?_) | (refine aw_reg0 (by simp only [SZ, Nat.reduceAdd]; exact rfl) ?_) | (refine aw_reg (by decide +kernel) (by simp only [SZ, Nat.reduceAdd]; exact rfl) ?_) | (refine aw_regS (by decide +kernel) (by simp only [SZ, Nat.reduceAdd]; exact rfl) ?_) | (refine arl_nil ?_) | (refine aw_skip ?_) | (refine aw_block ?_) | (refine aw_exit ?_) | (refine aw_ret ?_) | (refine arl_cons rfl rfl (by simp +decide only [aop, abuiltin, aeval, aintBin, bin_int, aload_bump, SS, reduceIte, reduceCtorEq, faO0, faO2, o0, o2, f3]; exact rfl) (by first | rfl | assumption) rfl ?_) | (refine arl_none rfl rfl (by simp +decide only [aop, abuiltin, aeval, aintBin, bin_int, aload_bump, SS, reduceIte, reduceCtorEq, faO0, faO2, o0, o2, f3]; exact rfl) rfl rfl ?_) | (refine arl_off rfl rfl ?_) | (refine aw_condT (by simp +decide only [aop, abuiltin, aeval, aintBin, bin_int, aload_bump, SS, reduceIte, reduceCtorEq, faO0, faO2, o0, o2, f3]; first | done | exact rfl) ?_) | (refine aw_condF (by simp +decide only [aop, abuiltin, aeval, aintBin, bin_int, aload_bump, SS, reduceIte, reduceCtorEq, faO0, faO2, o0, o2, f3]; first | done | exact rfl) ?_))
            refine arl_call rfl rfl rfl rfl rfl rfl ((put_ok (by repeat (first | assumption | (refine WF.bump ?_ _))) (hB4.up (by repeat (first | exact Keeps.refl _ _ | (refine Keeps.bumpR ?_ _)))) os[k].2.2.1 1 (by simp) (by omega) (by omega)).wf (by repeat (first | assumption | (refine WF.bump ?_ _) | (refine WF.put ?_ (by simp only [n_bump, n_put, n_touch, n_kill] at *; omega) (by simp only [n_bump, n_put, n_touch, n_kill] at *; omega)))) |>.mono ?_)
            rintro r s5 ⟨hw5, hn5, hE5, rfl, hB5⟩
            refine ⟨rfl, ?_⟩
            replace hE5 : Keeps (fun g => st.n ≤ g ∧ g ≠ s2.n ∧ g ≠ (s.bump 1).n + 2) s4 s5 := Keeps.trans (Keeps.mono (G := fun _ => False) (show Ext s4 _ from (by repeat (first | exact Keeps.refl _ _ | (refine Keeps.bumpR ?_ _)))) (fun _ h => h.elim)) hE5
            have hN5 := hE5.n
            have hg5 := hE5.get _ _ hg4 (fun h => h.2.2 rfl)
            have hO5 := hO4.keep hE5 (fun g h h' => h'.2.1 h) (fun _ g h h' => by omega)
            have hS5 : Ext st s5 := Keeps.call (hE.trans hE4) hE5 hw (fun g h => .inr h.1)
            replace hB5 : BxO s5 (fun g => st.n ≤ g ∧ g ≠ s2.n ∧ g ≠ (s.bump 1).n + 2) WR w _ 1048576 := hB5.mono (fun g h => h.elim id (fun h => by simp only [n_bump] at *; exact ⟨by omega, by omega, by omega⟩))
            by_cases hroom : ((1 : Nat) : Int) ≤ 1048576 - ((kept.map encO).flatten.length : Int)
            · rw [if_pos hroom] at hB5 ⊢
              repeat (first | (refine aw_seq ?_) | (refine aw_reg0 (by simp only [SZ, Nat.reduceAdd]; exact rfl) ?_) | (refine aw_reg (by decide +kernel) (by simp only [SZ, Nat.reduceAdd]; exact rfl) ?_) | (refine aw_regS (by decide +kernel) (by simp only [SZ, Nat.reduceAdd]; exact rfl) ?_) | (refine arl_nil ?_) | (refine aw_skip ?_) | (refine aw_block ?_) | (refine aw_exit ?_) | (refine aw_ret ?_) | (refine arl_cons rfl rfl (by simp +decide only [aop, abuiltin, aeval, aintBin, bin_int, aload_bump, SS, reduceIte, reduceCtorEq]; exact rfl) (by first | rfl | assumption) rfl ?_) | (refine arl_none rfl rfl (by simp +decide only [aop, abuiltin, aeval, aintBin, bin_int, aload_bump, SS, reduceIte, reduceCtorEq]; exact rfl) rfl rfl ?_) | (refine arl_off rfl rfl ?_) | (refine aw_condT (by simp +decide only [aop, abuiltin, aeval, aintBin, bin_int, aload_bump, SS, reduceIte, reduceCtorEq]; first | done | exact rfl) ?_) | (refine aw_condF (by simp +decide only [aop, abuiltin, aeval, aintBin, bin_int, aload_bump, SS, reduceIte, reduceCtorEq]; first | done | exact rfl) ?_))
              exact ⟨rfl, (by repeat (first | assumption | (refine WF.bump ?_ _))), hS5.trans (by repeat (first | exact Keeps.refl _ _ | (refine Keeps.bumpR ?_ _))), (by simp only [n_bump] at *; omega), f3, rfl, rfl, f23, f24, f25, hg5, hO5.up (by repeat (first | exact Keeps.refl _ _ | (refine Keeps.bumpR ?_ _))), 0, _, rfl, by rw [List.length_append, bes_len]; omega, hB5.up (by repeat (first | exact Keeps.refl _ _ | (refine Keeps.bumpR ?_ _))), .inl ⟨hnum', .inl ⟨rfl, by rw [henc]⟩⟩⟩
            · rw [if_neg hroom] at hB5 ⊢
              repeat (first | (refine aw_seq ?_) | (refine aw_reg0 (by simp only [SZ, Nat.reduceAdd]; exact rfl) ?_) | (refine aw_reg (by decide +kernel) (by simp only [SZ, Nat.reduceAdd]; exact rfl) ?_) | (refine aw_regS (by decide +kernel) (by simp only [SZ, Nat.reduceAdd]; exact rfl) ?_) | (refine arl_nil ?_) | (refine aw_skip ?_) | (refine aw_block ?_) | (refine aw_exit ?_) | (refine aw_ret ?_) | (refine arl_cons rfl rfl (by simp +decide only [aop, abuiltin, aeval, aintBin, bin_int, aload_bump, SS, reduceIte, reduceCtorEq]; exact rfl) (by first | rfl | assumption) rfl ?_) | (refine arl_none rfl rfl (by simp +decide only [aop, abuiltin, aeval, aintBin, bin_int, aload_bump, SS, reduceIte, reduceCtorEq]; exact rfl) rfl rfl ?_) | (refine arl_off rfl rfl ?_) | (refine aw_condT (by simp +decide only [aop, abuiltin, aeval, aintBin, bin_int, aload_bump, SS, reduceIte, reduceCtorEq]; first | done | exact rfl) ?_) | (refine aw_condF (by simp +decide only [aop, abuiltin, aeval, aintBin, bin_int, aload_bump, SS, reduceIte, reduceCtorEq]; first | done | exact rfl) ?_))
              exact ⟨rfl, (by repeat (first | assumption | (refine WF.bump ?_ _))), hS5.trans (by repeat (first | exact Keeps.refl _ _ | (refine Keeps.bumpR ?_ _))), (by simp only [n_bump] at *; omega), f3, rfl, rfl, f23, f24, f25, hg5, hO5.up (by repeat (first | exact Keeps.refl _ _ | (refine Keeps.bumpR ?_ _))), 10, _, rfl, hfl, hB5.up (by repeat (first | exact Keeps.refl _ _ | (refine Keeps.bumpR ?_ _))), .inl ⟨hnum', .inr ⟨rfl, rfl⟩⟩⟩
          · repeat (first | (refine aw_seq ?_) | (refine aw_reg0 (by simp only [SZ, Nat.reduceAdd]; exact rfl) ?_) | (refine aw_reg (by decide +kernel) (by simp only [SZ, Nat.reduceAdd]; exact rfl) ?_) | (refine aw_regS (by decide +kernel) (by simp only [SZ, Nat.reduceAdd]; exact rfl) ?_) | (refine arl_nil ?_) | (refine aw_skip ?_) | (refine aw_block ?_) | (refine aw_exit ?_) | (refine aw_ret ?_) | (refine arl_cons rfl rfl (by simp +decide only [aop, abuiltin, aeval, aintBin, bin_int, aload_bump, SS, reduceIte, reduceCtorEq, faO0, faO2, o0, o2, f3]; exact rfl) (by first | rfl | assumption) rfl ?_) | (refine arl_none rfl rfl (by simp +decide only [aop, abuiltin, aeval, aintBin, bin_int, aload_bump, SS, reduceIte, reduceCtorEq, faO0, faO2, o0, o2, f3]; exact rfl) rfl rfl ?_) | (refine arl_off rfl rfl ?_) | (refine aw_condT (by simp +decide only [aop, abuiltin, aeval, aintBin, bin_int, aload_bump, SS, reduceIte, reduceCtorEq, faO0, faO2, o0, o2, f3]; first | done | exact rfl) ?_) | (refine aw_condF (by simp +decide only [aop, abuiltin, aeval, aintBin, bin_int, aload_bump, SS, reduceIte, reduceCtorEq, faO0, faO2, o0, o2, f3]; first | done | exact rfl) ?_))
            refine arl_call rfl rfl rfl rfl rfl rfl ((put_ok (by repeat (first | assumption | (refine WF.bump ?_ _))) (hB4.up (by repeat (first | exact Keeps.refl _ _ | (refine Keeps.bumpR ?_ _)))) os[k].2.2.1 2 (by simp) (by omega) (by omega)).wf (by repeat (first | assumption | (refine WF.bump ?_ _) | (refine WF.put ?_ (by simp only [n_bump, n_put, n_touch, n_kill] at *; omega) (by simp only [n_bump, n_put, n_touch, n_kill] at *; omega)))) |>.mono ?_)
            rintro r s5 ⟨hw5, hn5, hE5, rfl, hB5⟩
            refine ⟨rfl, ?_⟩
            replace hE5 : Keeps (fun g => st.n ≤ g ∧ g ≠ s2.n ∧ g ≠ (s.bump 1).n + 2) s4 s5 := Keeps.trans (Keeps.mono (G := fun _ => False) (show Ext s4 _ from (by repeat (first | exact Keeps.refl _ _ | (refine Keeps.bumpR ?_ _)))) (fun _ h => h.elim)) hE5
            have hN5 := hE5.n
            have hg5 := hE5.get _ _ hg4 (fun h => h.2.2 rfl)
            have hO5 := hO4.keep hE5 (fun g h h' => h'.2.1 h) (fun _ g h h' => by omega)
            have hS5 : Ext st s5 := Keeps.call (hE.trans hE4) hE5 hw (fun g h => .inr h.1)
            replace hB5 : BxO s5 (fun g => st.n ≤ g ∧ g ≠ s2.n ∧ g ≠ (s.bump 1).n + 2) WR w _ 1048576 := hB5.mono (fun g h => h.elim id (fun h => by simp only [n_bump] at *; exact ⟨by omega, by omega, by omega⟩))
            by_cases hroom : ((2 : Nat) : Int) ≤ 1048576 - ((kept.map encO).flatten.length : Int)
            · rw [if_pos hroom] at hB5 ⊢
              repeat (first | (refine aw_seq ?_) | (refine aw_reg0 (by simp only [SZ, Nat.reduceAdd]; exact rfl) ?_) | (refine aw_reg (by decide +kernel) (by simp only [SZ, Nat.reduceAdd]; exact rfl) ?_) | (refine aw_regS (by decide +kernel) (by simp only [SZ, Nat.reduceAdd]; exact rfl) ?_) | (refine arl_nil ?_) | (refine aw_skip ?_) | (refine aw_block ?_) | (refine aw_exit ?_) | (refine aw_ret ?_) | (refine arl_cons rfl rfl (by simp +decide only [aop, abuiltin, aeval, aintBin, bin_int, aload_bump, SS, reduceIte, reduceCtorEq]; exact rfl) (by first | rfl | assumption) rfl ?_) | (refine arl_none rfl rfl (by simp +decide only [aop, abuiltin, aeval, aintBin, bin_int, aload_bump, SS, reduceIte, reduceCtorEq]; exact rfl) rfl rfl ?_) | (refine arl_off rfl rfl ?_) | (refine aw_condT (by simp +decide only [aop, abuiltin, aeval, aintBin, bin_int, aload_bump, SS, reduceIte, reduceCtorEq]; first | done | exact rfl) ?_) | (refine aw_condF (by simp +decide only [aop, abuiltin, aeval, aintBin, bin_int, aload_bump, SS, reduceIte, reduceCtorEq]; first | done | exact rfl) ?_))
              exact ⟨rfl, (by repeat (first | assumption | (refine WF.bump ?_ _))), hS5.trans (by repeat (first | exact Keeps.refl _ _ | (refine Keeps.bumpR ?_ _))), (by simp only [n_bump] at *; omega), f3, rfl, rfl, f23, f24, f25, hg5, hO5.up (by repeat (first | exact Keeps.refl _ _ | (refine Keeps.bumpR ?_ _))), 0, _, rfl, by rw [List.length_append, bes_len]; omega, hB5.up (by repeat (first | exact Keeps.refl _ _ | (refine Keeps.bumpR ?_ _))), .inl ⟨hnum', .inl ⟨rfl, by rw [henc]⟩⟩⟩
            · rw [if_neg hroom] at hB5 ⊢
              repeat (first | (refine aw_seq ?_) | (refine aw_reg0 (by simp only [SZ, Nat.reduceAdd]; exact rfl) ?_) | (refine aw_reg (by decide +kernel) (by simp only [SZ, Nat.reduceAdd]; exact rfl) ?_) | (refine aw_regS (by decide +kernel) (by simp only [SZ, Nat.reduceAdd]; exact rfl) ?_) | (refine arl_nil ?_) | (refine aw_skip ?_) | (refine aw_block ?_) | (refine aw_exit ?_) | (refine aw_ret ?_) | (refine arl_cons rfl rfl (by simp +decide only [aop, abuiltin, aeval, aintBin, bin_int, aload_bump, SS, reduceIte, reduceCtorEq]; exact rfl) (by first | rfl | assumption) rfl ?_) | (refine arl_none rfl rfl (by simp +decide only [aop, abuiltin, aeval, aintBin, bin_int, aload_bump, SS, reduceIte, reduceCtorEq]; exact rfl) rfl rfl ?_) | (refine arl_off rfl rfl ?_) | (refine aw_condT (by simp +decide only [aop, abuiltin, aeval, aintBin, bin_int, aload_bump, SS, reduceIte, reduceCtorEq]; first | done | exact rfl) ?_) | (refine aw_condF (by simp +decide only [aop, abuiltin, aeval, aintBin, bin_int, aload_bump, SS, reduceIte, reduceCtorEq]; first | done | exact rfl) ?_))
              exact ⟨rfl, (by repeat (first | assumption | (refine WF.bump ?_ _))), hS5.trans (by repeat (first | exact Keeps.refl _ _ | (refine Keeps.bumpR ?_ _))), (by simp only [n_bump] at *; omega), f3, rfl, rfl, f23, f24, f25, hg5, hO5.up (by repeat (first | exact Keeps.refl _ _ | (refine Keeps.bumpR ?_ _))), 10, _, rfl, hfl, hB5.up (by repeat (first | exact Keeps.refl _ _ | (refine Keeps.bumpR ?_ _))), .inl ⟨hnum', .inr ⟨rfl, rfl⟩⟩⟩
          · repeat (first | (refine aw_seq ?_) | (refine aw_reg0 (by simp only [SZ, Nat.reduceAdd]; exact rfl) ?_) | (refine aw_reg (by decide +kernel) (by simp only [SZ, Nat.reduceAdd]; exact rfl) ?_) | (refine aw_regS (by decide +kernel) (by simp only [SZ, Nat.reduceAdd]; exact rfl) ?_) | (refine arl_nil ?_) | (refine aw_skip ?_) | (refine aw_block ?_) | (refine aw_exit ?_) | (refine aw_ret ?_) | (refine arl_cons rfl rfl (by simp +decide only [aop, abuiltin, aeval, aintBin, bin_int, aload_bump, SS, reduceIte, reduceCtorEq, faO0, faO2, o0, o2, f3]; exact rfl) (by first | rfl | assumption) rfl ?_) | (refine arl_none rfl rfl (by simp +decide only [aop, abuiltin, aeval, aintBin, bin_int, aload_bump, SS, reduceIte, reduceCtorEq, faO0, faO2, o0, o2, f3]; exact rfl) rfl rfl ?_) | (refine arl_off rfl rfl ?_) | (refine aw_condT (by simp +decide only [aop, abuiltin, aeval, aintBin, bin_int, aload_bump, SS, reduceIte, reduceCtorEq, faO0, faO2, o0, o2, f3]; first | done | exact rfl) ?_) | (refine aw_condF (by simp +decide only [aop, abuiltin, aeval, aintBin, bin_int, aload_bump, SS, reduceIte, reduceCtorEq, faO0, faO2, o0, o2, f3]; first | done | exact rfl) ?_))
            refine arl_call rfl rfl rfl rfl rfl rfl ((put_ok (by repeat (first | assumption | (refine WF.bump ?_ _))) (hB4.up (by repeat (first | exact Keeps.refl _ _ | (refine Keeps.bumpR ?_ _)))) os[k].2.2.1 4 (by simp) (by omega) (by omega)).wf (by repeat (first | assumption | (refine WF.bump ?_ _) | (refine WF.put ?_ (by simp only [n_bump, n_put, n_touch, n_kill] at *; omega) (by simp only [n_bump, n_put, n_touch, n_kill] at *; omega)))) |>.mono ?_)
            rintro r s5 ⟨hw5, hn5, hE5, rfl, hB5⟩
            refine ⟨rfl, ?_⟩
            replace hE5 : Keeps (fun g => st.n ≤ g ∧ g ≠ s2.n ∧ g ≠ (s.bump 1).n + 2) s4 s5 := Keeps.trans (Keeps.mono (G := fun _ => False) (show Ext s4 _ from (by repeat (first | exact Keeps.refl _ _ | (refine Keeps.bumpR ?_ _)))) (fun _ h => h.elim)) hE5
            have hN5 := hE5.n
            have hg5 := hE5.get _ _ hg4 (fun h => h.2.2 rfl)
            have hO5 := hO4.keep hE5 (fun g h h' => h'.2.1 h) (fun _ g h h' => by omega)
            have hS5 : Ext st s5 := Keeps.call (hE.trans hE4) hE5 hw (fun g h => .inr h.1)
            replace hB5 : BxO s5 (fun g => st.n ≤ g ∧ g ≠ s2.n ∧ g ≠ (s.bump 1).n + 2) WR w _ 1048576 := hB5.mono (fun g h => h.elim id (fun h => by simp only [n_bump] at *; exact ⟨by omega, by omega, by omega⟩))
            by_cases hroom : ((4 : Nat) : Int) ≤ 1048576 - ((kept.map encO).flatten.length : Int)
            · rw [if_pos hroom] at hB5 ⊢
              repeat (first | (refine aw_seq ?_) | (refine aw_reg0 (by simp only [SZ, Nat.reduceAdd]; exact rfl) ?_) | (refine aw_reg (by decide +kernel) (by simp only [SZ, Nat.reduceAdd]; exact rfl) ?_) | (refine aw_regS (by decide +kernel) (by simp only [SZ, Nat.reduceAdd]; exact rfl) ?_) | (refine arl_nil ?_) | (refine aw_skip ?_) | (refine aw_block ?_) | (refine aw_exit ?_) | (refine aw_ret ?_) | (refine arl_cons rfl rfl (by simp +decide only [aop, abuiltin, aeval, aintBin, bin_int, aload_bump, SS, reduceIte, reduceCtorEq]; exact rfl) (by first | rfl | assumption) rfl ?_) | (refine arl_none rfl rfl (by simp +decide only [aop, abuiltin, aeval, aintBin, bin_int, aload_bump, SS, reduceIte, reduceCtorEq]; exact rfl) rfl rfl ?_) | (refine arl_off rfl rfl ?_) | (refine aw_condT (by simp +decide only [aop, abuiltin, aeval, aintBin, bin_int, aload_bump, SS, reduceIte, reduceCtorEq]; first | done | exact rfl) ?_) | (refine aw_condF (by simp +decide only [aop, abuiltin, aeval, aintBin, bin_int, aload_bump, SS, reduceIte, reduceCtorEq]; first | done | exact rfl) ?_))
              exact ⟨rfl, (by repeat (first | assumption | (refine WF.bump ?_ _))), hS5.trans (by repeat (first | exact Keeps.refl _ _ | (refine Keeps.bumpR ?_ _))), (by simp only [n_bump] at *; omega), f3, rfl, rfl, f23, f24, f25, hg5, hO5.up (by repeat (first | exact Keeps.refl _ _ | (refine Keeps.bumpR ?_ _))), 0, _, rfl, by rw [List.length_append, bes_len]; omega, hB5.up (by repeat (first | exact Keeps.refl _ _ | (refine Keeps.bumpR ?_ _))), .inl ⟨hnum', .inl ⟨rfl, by rw [henc]⟩⟩⟩
            · rw [if_neg hroom] at hB5 ⊢
              repeat (first | (refine aw_seq ?_) | (refine aw_reg0 (by simp only [SZ, Nat.reduceAdd]; exact rfl) ?_) | (refine aw_reg (by decide +kernel) (by simp only [SZ, Nat.reduceAdd]; exact rfl) ?_) | (refine aw_regS (by decide +kernel) (by simp only [SZ, Nat.reduceAdd]; exact rfl) ?_) | (refine arl_nil ?_) | (refine aw_skip ?_) | (refine aw_block ?_) | (refine aw_exit ?_) | (refine aw_ret ?_) | (refine arl_cons rfl rfl (by simp +decide only [aop, abuiltin, aeval, aintBin, bin_int, aload_bump, SS, reduceIte, reduceCtorEq]; exact rfl) (by first | rfl | assumption) rfl ?_) | (refine arl_none rfl rfl (by simp +decide only [aop, abuiltin, aeval, aintBin, bin_int, aload_bump, SS, reduceIte, reduceCtorEq]; exact rfl) rfl rfl ?_) | (refine arl_off rfl rfl ?_) | (refine aw_condT (by simp +decide only [aop, abuiltin, aeval, aintBin, bin_int, aload_bump, SS, reduceIte, reduceCtorEq]; first | done | exact rfl) ?_) | (refine aw_condF (by simp +decide only [aop, abuiltin, aeval, aintBin, bin_int, aload_bump, SS, reduceIte, reduceCtorEq]; first | done | exact rfl) ?_))
              exact ⟨rfl, (by repeat (first | assumption | (refine WF.bump ?_ _))), hS5.trans (by repeat (first | exact Keeps.refl _ _ | (refine Keeps.bumpR ?_ _))), (by simp only [n_bump] at *; omega), f3, rfl, rfl, f23, f24, f25, hg5, hO5.up (by repeat (first | exact Keeps.refl _ _ | (refine Keeps.bumpR ?_ _))), 10, _, rfl, hfl, hB5.up (by repeat (first | exact Keeps.refl _ _ | (refine Keeps.bumpR ?_ _))), .inl ⟨hnum', .inr ⟨rfl, rfl⟩⟩⟩
          · repeat (first | (refine aw_seq ?_) | (refine aw_reg0 (by simp only [SZ, Nat.reduceAdd]; exact rfl) ?_) | (refine aw_reg (by decide +kernel) (by simp only [SZ, Nat.reduceAdd]; exact rfl) ?_) | (refine aw_regS (by decide +kernel) (by simp only [SZ, Nat.reduceAdd]; exact rfl) ?_) | (refine arl_nil ?_) | (refine aw_skip ?_) | (refine aw_block ?_) | (refine aw_exit ?_) | (refine aw_ret ?_) | (refine arl_cons rfl rfl (by simp +decide only [aop, abuiltin, aeval, aintBin, bin_int, aload_bump, SS, reduceIte, reduceCtorEq, faO0, faO2, o0, o2, f3]; exact rfl) (by first | rfl | assumption) rfl ?_) | (refine arl_none rfl rfl (by simp +decide only [aop, abuiltin, aeval, aintBin, bin_int, aload_bump, SS, reduceIte, reduceCtorEq, faO0, faO2, o0, o2, f3]; exact rfl) rfl rfl ?_) | (refine arl_off rfl rfl ?_) | (refine aw_condT (by simp +decide only [aop, abuiltin, aeval, aintBin, bin_int, aload_bump, SS, reduceIte, reduceCtorEq, faO0, faO2, o0, o2, f3]; first | done | exact rfl) ?_) | (refine aw_condF (by simp +decide only [aop, abuiltin, aeval, aintBin, bin_int, aload_bump, SS, reduceIte, reduceCtorEq, faO0, faO2, o0, o2, f3]; first | done | exact rfl) ?_))
            refine arl_call rfl rfl rfl rfl rfl rfl ((put_ok (by repeat (first | assumption | (refine WF.bump ?_ _))) (hB4.up (by repeat (first | exact Keeps.refl _ _ | (refine Keeps.bumpR ?_ _)))) os[k].2.2.1 8 (by simp) (by omega) (by omega)).wf (by repeat (first | assumption | (refine WF.bump ?_ _) | (refine WF.put ?_ (by simp only [n_bump, n_put, n_touch, n_kill] at *; omega) (by simp only [n_bump, n_put, n_touch, n_kill] at *; omega)))) |>.mono ?_)
            rintro r s5 ⟨hw5, hn5, hE5, rfl, hB5⟩
            refine ⟨rfl, ?_⟩
            replace hE5 : Keeps (fun g => st.n ≤ g ∧ g ≠ s2.n ∧ g ≠ (s.bump 1).n + 2) s4 s5 := Keeps.trans (Keeps.mono (G := fun _ => False) (show Ext s4 _ from (by repeat (first | exact Keeps.refl _ _ | (refine Keeps.bumpR ?_ _)))) (fun _ h => h.elim)) hE5
            have hN5 := hE5.n
            have hg5 := hE5.get _ _ hg4 (fun h => h.2.2 rfl)
            have hO5 := hO4.keep hE5 (fun g h h' => h'.2.1 h) (fun _ g h h' => by omega)
            have hS5 : Ext st s5 := Keeps.call (hE.trans hE4) hE5 hw (fun g h => .inr h.1)
            replace hB5 : BxO s5 (fun g => st.n ≤ g ∧ g ≠ s2.n ∧ g ≠ (s.bump 1).n + 2) WR w _ 1048576 := hB5.mono (fun g h => h.elim id (fun h => by simp only [n_bump] at *; exact ⟨by omega, by omega, by omega⟩))
            by_cases hroom : ((8 : Nat) : Int) ≤ 1048576 - ((kept.map encO).flatten.length : Int)
            · rw [if_pos hroom] at hB5 ⊢
              repeat (first | (refine aw_seq ?_) | (refine aw_reg0 (by simp only [SZ, Nat.reduceAdd]; exact rfl) ?_) | (refine aw_reg (by decide +kernel) (by simp only [SZ, Nat.reduceAdd]; exact rfl) ?_) | (refine aw_regS (by decide +kernel) (by simp only [SZ, Nat.reduceAdd]; exact rfl) ?_) | (refine arl_nil ?_) | (refine aw_skip ?_) | (refine aw_block ?_) | (refine aw_exit ?_) | (refine aw_ret ?_) | (refine arl_cons rfl rfl (by simp +decide only [aop, abuiltin, aeval, aintBin, bin_int, aload_bump, SS, reduceIte, reduceCtorEq]; exact rfl) (by first | rfl | assumption) rfl ?_) | (refine arl_none rfl rfl (by simp +decide only [aop, abuiltin, aeval, aintBin, bin_int, aload_bump, SS, reduceIte, reduceCtorEq]; exact rfl) rfl rfl ?_) | (refine arl_off rfl rfl ?_) | (refine aw_condT (by simp +decide only [aop, abuiltin, aeval, aintBin, bin_int, aload_bump, SS, reduceIte, reduceCtorEq]; first | done | exact rfl) ?_) | (refine aw_condF (by simp +decide only [aop, abuiltin, aeval, aintBin, bin_int, aload_bump, SS, reduceIte, reduceCtorEq]; first | done | exact rfl) ?_))
              exact ⟨rfl, (by repeat (first | assumption | (refine WF.bump ?_ _))), hS5.trans (by repeat (first | exact Keeps.refl _ _ | (refine Keeps.bumpR ?_ _))), (by simp only [n_bump] at *; omega), f3, rfl, rfl, f23, f24, f25, hg5, hO5.up (by repeat (first | exact Keeps.refl _ _ | (refine Keeps.bumpR ?_ _))), 0, _, rfl, by rw [List.length_append, bes_len]; omega, hB5.up (by repeat (first | exact Keeps.refl _ _ | (refine Keeps.bumpR ?_ _))), .inl ⟨hnum', .inl ⟨rfl, by rw [henc]⟩⟩⟩
            · rw [if_neg hroom] at hB5 ⊢
              repeat (first | (refine aw_seq ?_) | (refine aw_reg0 (by simp only [SZ, Nat.reduceAdd]; exact rfl) ?_) | (refine aw_reg (by decide +kernel) (by simp only [SZ, Nat.reduceAdd]; exact rfl) ?_) | (refine aw_regS (by decide +kernel) (by simp only [SZ, Nat.reduceAdd]; exact rfl) ?_) | (refine arl_nil ?_) | (refine aw_skip ?_) | (refine aw_block ?_) | (refine aw_exit ?_) | (refine aw_ret ?_) | (refine arl_cons rfl rfl (by simp +decide only [aop, abuiltin, aeval, aintBin, bin_int, aload_bump, SS, reduceIte, reduceCtorEq]; exact rfl) (by first | rfl | assumption) rfl ?_) | (refine arl_none rfl rfl (by simp +decide only [aop, abuiltin, aeval, aintBin, bin_int, aload_bump, SS, reduceIte, reduceCtorEq]; exact rfl) rfl rfl ?_) | (refine arl_off rfl rfl ?_) | (refine aw_condT (by simp +decide only [aop, abuiltin, aeval, aintBin, bin_int, aload_bump, SS, reduceIte, reduceCtorEq]; first | done | exact rfl) ?_) | (refine aw_condF (by simp +decide only [aop, abuiltin, aeval, aintBin, bin_int, aload_bump, SS, reduceIte, reduceCtorEq]; first | done | exact rfl) ?_))
              exact ⟨rfl, (by repeat (first | assumption | (refine WF.bump ?_ _))), hS5.trans (by repeat (first | exact Keeps.refl _ _ | (refine Keeps.bumpR ?_ _))), (by simp only [n_bump] at *; omega), f3, rfl, rfl, f23, f24, f25, hg5, hO5.up (by repeat (first | exact Keeps.refl _ _ | (refine Keeps.bumpR ?_ _))), 10, _, rfl, hfl, hB5.up (by repeat (first | exact Keeps.refl _ _ | (refine Keeps.bumpR ?_ _))), .inl ⟨hnum', .inr ⟨rfl, rfl⟩⟩⟩
        · have k1 : (os[k].1 == 1) = false := beq_f (fun e => hnum ⟨1, e, by simp⟩)
          have k2 : (os[k].1 == 2) = false := beq_f (fun e => hnum ⟨2, e, by simp⟩)
          have k4 : (os[k].1 == 4) = false := beq_f (fun e => hnum ⟨4, e, by simp⟩)
          have k8 : (os[k].1 == 8) = false := beq_f (fun e => hnum ⟨8, e, by simp⟩)
          repeat (first | (refine aw_seq ?_) | (refine aw_reg0 (by simp only [SZ, Nat.reduceAdd]; exact rfl) ?_) | (refine aw_reg (by decide +kernel) (by simp only [SZ, Nat.reduceAdd]; exact rfl) ?_) | (refine aw_regS (by decide +kernel) (by simp only [SZ, Nat.reduceAdd]; exact rfl) ?_) | (refine arl_nil ?_) | (refine aw_skip ?_) | (refine aw_block ?_) | (refine aw_exit ?_) | (refine aw_ret ?_) | (refine arl_cons rfl rfl (by simp +decide only [aop, abuiltin, aeval, aintBin, bin_int, aload_bump, SS, reduceIte, reduceCtorEq, faO0, o0, k1, k2, k4, k8]; exact rfl) (by first | rfl | assumption) rfl ?_) | (refine arl_none rfl rfl (by simp +decide only [aop, abuiltin, aeval, aintBin, bin_int, aload_bump, SS, reduceIte, reduceCtorEq, faO0, o0, k1, k2, k4, k8]; exact rfl) rfl rfl ?_) | (refine arl_off rfl rfl ?_) | (refine aw_condT (by simp +decide only [aop, abuiltin, aeval, aintBin, bin_int, aload_bump, SS, reduceIte, reduceCtorEq, faO0, o0, k1, k2, k4, k8]; first | done | exact rfl) ?_) | (refine aw_condF (by simp +decide only [aop, abuiltin, aeval, aintBin, bin_int, aload_bump, SS, reduceIte, reduceCtorEq, faO0, o0, k1, k2, k4, k8]; first | done | exact rfl) ?_))
          exact ⟨rfl, (by repeat (first | assumption | (refine WF.bump ?_ _))), (hE.trans hE4).trans (by repeat (first | exact Keeps.refl _ _ | (refine Keeps.bumpR ?_ _))), (by simp only [n_bump] at *; omega), f3, rfl, rfl, f23, f24, f25, hg4, hO4.up (by repeat (first | exact Keeps.refl _ _ | (refine Keeps.bumpR ?_ _))), 10, _, rfl, hfl, hB4.up (by repeat (first | exact Keeps.refl _ _ | (refine Keeps.bumpR ?_ _))), .inr ⟨hnum, rfl, rfl⟩⟩
      · rintro e fr1 s5 ⟨rfl, hw5, hE5, hn5, g3, g4, g6, g23, g24, g25, hg5, hO5, z, ys, g7, hys, hB5, hcase⟩
        have hN5 := hE5.n
        obtain ⟨o0, o1, o2, o3⟩ := opLd hg5
        refine aw_cut (M := fun e fr' s' => e = .normal ∧ WF s' ∧ Ext st s' ∧ s4.n ≤ s'.n ∧ fr' 3 = w ∧ fr' 4 = fr 4 ∧ fr' 6 = .ptr ((s.bump 1).n + 2) 0 ∧ fr' 23 = v ∧ fr' 24 = i64 os.length ∧ fr' 25 = i64 k ∧ s'.get ((s.bump 1).n + 2) = some ⟨[i64 os[k].1, i64 os[k].2.1, i64 os[k].2.2.1, pv], OP, true, ((s.bump 1).n + 2)⟩ ∧ OwX opK s' (fun g => g = s2.n) (fun _ g => g < st.n) OP (fr 4) kept ∧ ∃ (z : Int) (ys : List Int), fr' 7 = i64 z ∧ ys.length ≤ 1048576 ∧ BxO s' (fun g => st.n ≤ g ∧ g ≠ s2.n ∧ g ≠ (s.bump 1).n + 2) WR w ys 1048576 ∧ ((z = 0 ∧ okO os[k] ∧ ys = (kept.map encO).flatten ++ encO os[k]) ∨ (z = 10 ∧ ys = (kept.map encO).flatten))) ?_ ?_
        · rcases hcase with ⟨hnum, hcase⟩ | ⟨hnum, rfl, rfl⟩
          · have k15 : (os[k].1 == 15) = false := beq_f (fun e => by obtain ⟨m, h1, h2⟩ := hnum; omega)
            repeat (first | (refine aw_seq ?_) | (refine aw_reg0 (by simp only [SZ, Nat.reduceAdd]; exact rfl) ?_) | (refine aw_reg (by decide +kernel) (by simp only [SZ, Nat.reduceAdd]; exact rfl) ?_) | (refine aw_regS (by decide +kernel) (by simp only [SZ, Nat.reduceAdd]; exact rfl) ?_) | (refine arl_nil ?_) | (refine aw_skip ?_) | (refine aw_block ?_) | (refine aw_exit ?_) | (refine aw_ret ?_) | (refine arl_cons rfl rfl (by simp +decide only [aop, abuiltin, aeval, aintBin, bin_int, aload_bump, SS, reduceIte, reduceCtorEq, g6, faO0, o0, k15]; exact rfl) (by first | rfl | assumption) rfl ?_) | (refine arl_none rfl rfl (by simp +decide only [aop, abuiltin, aeval, aintBin, bin_int, aload_bump, SS, reduceIte, reduceCtorEq, g6, faO0, o0, k15]; exact rfl) rfl rfl ?_) | (refine arl_off rfl rfl ?_) | (refine aw_condT (by simp +decide only [aop, abuiltin, aeval, aintBin, bin_int, aload_bump, SS, reduceIte, reduceCtorEq, g6, faO0, o0, k15]; first | done | exact rfl) ?_) | (refine aw_condF (by simp +decide only [aop, abuiltin, aeval, aintBin, bin_int, aload_bump, SS, reduceIte, reduceCtorEq, g6, faO0, o0, k15]; first | done | exact rfl) ?_))
            exact ⟨rfl, (by repeat (first | assumption | (refine WF.bump ?_ _))), hE5.trans (by repeat (first | exact Keeps.refl _ _ | (refine Keeps.bumpR ?_ _))), (by simp only [n_bump] at *; omega), g3, g4, g6, g23, g24, g25, hg5, hO5.up (by repeat (first | exact Keeps.refl _ _ | (refine Keeps.bumpR ?_ _))), z, ys, g7, hys, hB5.up (by repeat (first | exact Keeps.refl _ _ | (refine Keeps.bumpR ?_ _))), hcase.imp (fun h => ⟨h.1, .inl hnum, h.2⟩) id⟩
          · by_cases h15 : os[k].1 = 15
            · have k15 : (os[k].1 == 15) = true := beq_t h15
              have hpl5 : alen Try.prog #[22] [pv] = some (i64 os[k].2.2.2.length) := RdE.len hp4 TR
              by_cases hone : os[k].2.2.2.length = 1
              · obtain ⟨p, hp⟩ : ∃ p, os[k].2.2.2 = [p] := by
                  match hq : os[k].2.2.2, hone with
                  | [p], _ => exact ⟨p, rfl⟩
                have hpp := hpl _ (List.getElem_mem hlt) p (by rw [hp]; simp)
                have h1 : (((os[k].2.2.2.length : Nat) : Int) == 1) = true := beq_t (by omega)
                have henc : encO os[k] = p := by
                  unfold encO
                  rw [if_pos h15, hp]
                  rfl
                rw [hp] at hp4
                obtain ⟨q1, c, hc1, hc2, hc3, hc4, hc5⟩ := row_at (hp4.up hE5) .i64 0 (by simp)
                replace hc1 : aindexAddr Try.prog 22 pv (.pl (.int .i64 0)) = some q1 := hc1
                replace hc5 : RdB s5 (fun g => g < st.n) c p := hc5
                repeat (first | (refine aw_seq ?_) | (refine aw_reg0 (by simp only [SZ, Nat.reduceAdd]; exact rfl) ?_) | (refine aw_reg (by decide +kernel) (by simp only [SZ, Nat.reduceAdd]; exact rfl) ?_) | (refine aw_regS (by decide +kernel) (by simp only [SZ, Nat.reduceAdd]; exact rfl) ?_) | (refine arl_nil ?_) | (refine aw_skip ?_) | (refine aw_block ?_) | (refine aw_exit ?_) | (refine aw_ret ?_) | (refine arl_cons rfl rfl (by simp +decide only [aop, abuiltin, aeval, aintBin, bin_int, aload_bump, SS, reduceIte, reduceCtorEq, g3, g6, faO0, faO3, o0, o3, k15, hpl5, h1, hc1, hc3]; exact rfl) (by first | rfl | assumption) rfl ?_) | (refine arl_none rfl rfl (by simp +decide only [aop, abuiltin, aeval, aintBin, bin_int, aload_bump, SS, reduceIte, reduceCtorEq, g3, g6, faO0, faO3, o0, o3, k15, hpl5, h1, hc1, hc3]; exact rfl) rfl rfl ?_) | (refine arl_off rfl rfl ?_) | (refine aw_condT (by simp +decide only [aop, abuiltin, aeval, aintBin, bin_int, aload_bump, SS, reduceIte, reduceCtorEq, g3, g6, faO0, faO3, o0, o3, k15, hpl5, h1, hc1, hc3]; first | done | exact rfl) ?_) | (refine aw_condF (by simp +decide only [aop, abuiltin, aeval, aintBin, bin_int, aload_bump, SS, reduceIte, reduceCtorEq, g3, g6, faO0, faO3, o0, o3, k15, hpl5, h1, hc1, hc3]; first | done | exact rfl) ?_))
                refine arl_call rfl rfl rfl rfl rfl rfl ((copy_ok (by repeat (first | assumption | (refine WF.bump ?_ _))) (hc5.up (by repeat (first | exact Keeps.refl _ _ | (refine Keeps.bumpR ?_ _)))) (by omega)).dead.wf (by repeat (first | assumption | (refine WF.bump ?_ _) | (refine WF.put ?_ (by simp only [n_bump, n_put, n_touch, n_kill] at *; omega) (by simp only [n_bump, n_put, n_touch, n_kill] at *; omega)))) |>.mono ?_)
                rintro c1 s7 ⟨hw7, hn7, hd7, hE7, hc1s, hC1⟩
                refine ⟨hc1s, ?_⟩
                have hid7 : s7.get ((s5.bump 9).n + 6) = none := hd7 _ (by simp only [n_bump]; omega) (fresh hw5 (by simp only [n_bump]; omega))
                replace hE7 : Ext s5 s7 := Keeps.trans (show Ext s5 _ from (by repeat (first | exact Keeps.refl _ _ | (refine Keeps.bumpR ?_ _)))) hE7
                have hN7 := hE7.n
                have hB7 := (hB5.lt hw5).up hE7
                have hg7 := hE7.get _ _ hg5 (fun h => h)
                have hO7 := hO5.up hE7
                have hS7 := hE5.trans hE7
                have hlb := litB1 hC1.rd
                repeat (first | (refine aw_seq ?_) | (refine aw_reg0 (by simp only [SZ, Nat.reduceAdd]; exact rfl) ?_) | (refine aw_reg (by decide +kernel) (by simp only [SZ, Nat.reduceAdd]; exact rfl) ?_) | (refine aw_regS (by decide +kernel) (by simp only [SZ, Nat.reduceAdd]; exact rfl) ?_) | (refine arl_nil ?_) | (refine aw_skip ?_) | (refine aw_block ?_) | (refine aw_exit ?_) | (refine aw_ret ?_) | (refine arl_cons rfl rfl (by simp +decide only [aop, abuiltin, aeval, aintBin, bin_int, aload_bump, SS, reduceIte, reduceCtorEq, g3, hlb]; exact rfl) (by first | rfl | assumption) rfl ?_) | (refine arl_none rfl rfl (by simp +decide only [aop, abuiltin, aeval, aintBin, bin_int, aload_bump, SS, reduceIte, reduceCtorEq, g3, hlb]; exact rfl) rfl rfl ?_) | (refine arl_off rfl rfl ?_) | (refine aw_condT (by simp +decide only [aop, abuiltin, aeval, aintBin, bin_int, aload_bump, SS, reduceIte, reduceCtorEq, g3, hlb]; first | done | exact rfl) ?_) | (refine aw_condF (by simp +decide only [aop, abuiltin, aeval, aintBin, bin_int, aload_bump, SS, reduceIte, reduceCtorEq, g3, hlb]; first | done | exact rfl) ?_))
                have hx : Ext s7 (s7.put ((s5.bump 9).n + 6) ⟨[c1], 24, true, (s5.bump 9).n + 6⟩) := Keeps.putF (Keeps.refl _ _) hid7
                refine arl_call rfl rfl rfl rfl rfl rfl ((wraw_ok (ps := [p]) (Kr := fun g => g = (s5.bump 9).n + 6) (Kp := fun g => (s5.bump 9).n + 7 ≤ g ∧ g < s7.n) ((by repeat (first | assumption | (refine WF.bump ?_ _) | (refine WF.put ?_ (by simp only [n_bump, n_put, n_touch, n_kill] at *; omega) (by simp only [n_bump, n_put, n_touch, n_kill] at *; omega))))) (hB7.up hx) ?hlit ?hr ?hq ?hm ?hl2 ?hfl ?hpl).wf (by repeat (first | assumption | (refine WF.bump ?_ _) | (refine WF.put ?_ (by simp only [n_bump, n_put, n_touch, n_kill] at *; omega) (by simp only [n_bump, n_put, n_touch, n_kill] at *; omega)))) |>.mono ?_)
                case hlit => exact RdL.lit1K (K := fun g => g = (s5.bump 9).n + 6) (id := (s5.bump 9).n + 6) (R := RB (s7.put ((s5.bump 9).n + 6) ⟨[c1], 24, true, (s5.bump 9).n + 6⟩) (fun g => (s5.bump 9).n + 7 ≤ g ∧ g < s7.n)) ⟨c1, rfl, (((hC1.lt hw7).mono (K' := fun g => (s5.bump 9).n + 7 ≤ g ∧ g < s7.n) (fun g h => ⟨by have := h.1; simp only [n_bump] at *; omega, h.2⟩)).up hx).rd⟩ _ rfl _
                case hr => simp only [n_bump, n_put] at *; intro g h; omega
                case hq => simp only [n_bump, n_put] at *; intro g h; omega
                case hm => omega
                case hl2 => omega
                case hfl => simp; omega
                case hpl => simp
                rintro r s8 ⟨hw8, hn8, hE8, rfl, hB8⟩
                refine ⟨by split <;> rfl, ?_⟩
                replace hE8 : Keeps (fun g => st.n ≤ g ∧ g ≠ s2.n ∧ g ≠ (s.bump 1).n + 2 ∧ g < s5.n) s7 s8 := Keeps.trans (Keeps.mono (G := fun _ => False) hx (fun _ h => h.elim)) (Keeps.mono hE8 (fun g h => by have h1 := h.1; have h2 := h.2; exact ⟨h1.1, h1.2.1, h1.2.2, h2⟩))
                have hN8 := hE8.n
                have hg8 := hE8.get _ _ hg7 (fun h => h.2.2.1 rfl)
                have hO8 := hO7.keep hE8 (fun g h h' => h'.2.1 h) (fun _ g h h' => by omega)
                have hS8 : Ext st s8 := Keeps.call hS7 hE8 hw (fun g h => .inr h.1)
                replace hB8 : BxO s8 (fun g => st.n ≤ g ∧ g ≠ s2.n ∧ g ≠ (s.bump 1).n + 2) WR w _ 1048576 := hB8.mono (fun g h => h.elim (fun h => h.1) (fun h => by simp only [n_bump, n_put] at *; exact ⟨by omega, by omega, by omega⟩))
                have hfx : ([p] : List (List Int)).flatten = p := by simp
                rw [hfx] at hB8 ⊢
                by_cases hroom : (p.length : Int) > 1048576 - ((kept.map encO).flatten.length : Int)
                · rw [if_pos hroom] at hB8 ⊢
                  repeat (first | (refine aw_seq ?_) | (refine aw_reg0 (by simp only [SZ, Nat.reduceAdd]; exact rfl) ?_) | (refine aw_reg (by decide +kernel) (by simp only [SZ, Nat.reduceAdd]; exact rfl) ?_) | (refine aw_regS (by decide +kernel) (by simp only [SZ, Nat.reduceAdd]; exact rfl) ?_) | (refine arl_nil ?_) | (refine aw_skip ?_) | (refine aw_block ?_) | (refine aw_exit ?_) | (refine aw_ret ?_) | (refine arl_cons rfl rfl (by simp +decide only [aop, abuiltin, aeval, aintBin, bin_int, aload_bump, SS, reduceIte, reduceCtorEq]; exact rfl) (by first | rfl | assumption) rfl ?_) | (refine arl_none rfl rfl (by simp +decide only [aop, abuiltin, aeval, aintBin, bin_int, aload_bump, SS, reduceIte, reduceCtorEq]; exact rfl) rfl rfl ?_) | (refine arl_off rfl rfl ?_) | (refine aw_condT (by simp +decide only [aop, abuiltin, aeval, aintBin, bin_int, aload_bump, SS, reduceIte, reduceCtorEq]; first | done | exact rfl) ?_) | (refine aw_condF (by simp +decide only [aop, abuiltin, aeval, aintBin, bin_int, aload_bump, SS, reduceIte, reduceCtorEq]; first | done | exact rfl) ?_))
                  exact ⟨rfl, (by repeat (first | assumption | (refine WF.bump ?_ _))), hS8.trans (by repeat (first | exact Keeps.refl _ _ | (refine Keeps.bumpR ?_ _))), (by simp only [n_bump] at *; omega), g3, g4, g6, g23, g24, g25, hg8, hO8.up (by repeat (first | exact Keeps.refl _ _ | (refine Keeps.bumpR ?_ _))), 10, _, rfl, hys, hB8.up (by repeat (first | exact Keeps.refl _ _ | (refine Keeps.bumpR ?_ _))), .inr ⟨rfl, rfl⟩⟩
                · rw [if_neg hroom] at hB8 ⊢
                  repeat (first | (refine aw_seq ?_) | (refine aw_reg0 (by simp only [SZ, Nat.reduceAdd]; exact rfl) ?_) | (refine aw_reg (by decide +kernel) (by simp only [SZ, Nat.reduceAdd]; exact rfl) ?_) | (refine aw_regS (by decide +kernel) (by simp only [SZ, Nat.reduceAdd]; exact rfl) ?_) | (refine arl_nil ?_) | (refine aw_skip ?_) | (refine aw_block ?_) | (refine aw_exit ?_) | (refine aw_ret ?_) | (refine arl_cons rfl rfl (by simp +decide only [aop, abuiltin, aeval, aintBin, bin_int, aload_bump, SS, reduceIte, reduceCtorEq]; exact rfl) (by first | rfl | assumption) rfl ?_) | (refine arl_none rfl rfl (by simp +decide only [aop, abuiltin, aeval, aintBin, bin_int, aload_bump, SS, reduceIte, reduceCtorEq]; exact rfl) rfl rfl ?_) | (refine arl_off rfl rfl ?_) | (refine aw_condT (by simp +decide only [aop, abuiltin, aeval, aintBin, bin_int, aload_bump, SS, reduceIte, reduceCtorEq]; first | done | exact rfl) ?_) | (refine aw_condF (by simp +decide only [aop, abuiltin, aeval, aintBin, bin_int, aload_bump, SS, reduceIte, reduceCtorEq]; first | done | exact rfl) ?_))
                  exact ⟨rfl, (by repeat (first | assumption | (refine WF.bump ?_ _))), hS8.trans (by repeat (first | exact Keeps.refl _ _ | (refine Keeps.bumpR ?_ _))), (by simp only [n_bump] at *; omega), g3, g4, g6, g23, g24, g25, hg8, hO8.up (by repeat (first | exact Keeps.refl _ _ | (refine Keeps.bumpR ?_ _))), 0, _, rfl, by rw [List.length_append]; omega, hB8.up (by repeat (first | exact Keeps.refl _ _ | (refine Keeps.bumpR ?_ _))), .inl ⟨rfl, .inr ⟨h15, p, hp⟩, by rw [henc]⟩⟩
              · have h1 : (((os[k].2.2.2.length : Nat) : Int) == 1) = false := beq_f (by omega)
                repeat (first | (refine aw_seq ?_) | (refine aw_reg0 (by simp only [SZ, Nat.reduceAdd]; exact rfl) ?_) | (refine aw_reg (by decide +kernel) (by simp only [SZ, Nat.reduceAdd]; exact rfl) ?_) | (refine aw_regS (by decide +kernel) (by simp only [SZ, Nat.reduceAdd]; exact rfl) ?_) | (refine arl_nil ?_) | (refine aw_skip ?_) | (refine aw_block ?_) | (refine aw_exit ?_) | (refine aw_ret ?_) | (refine arl_cons rfl rfl (by simp +decide only [aop, abuiltin, aeval, aintBin, bin_int, aload_bump, SS, reduceIte, reduceCtorEq, g6, faO0, faO3, o0, o3, k15, hpl5, h1]; exact rfl) (by first | rfl | assumption) rfl ?_) | (refine arl_none rfl rfl (by simp +decide only [aop, abuiltin, aeval, aintBin, bin_int, aload_bump, SS, reduceIte, reduceCtorEq, g6, faO0, faO3, o0, o3, k15, hpl5, h1]; exact rfl) rfl rfl ?_) | (refine arl_off rfl rfl ?_) | (refine aw_condT (by simp +decide only [aop, abuiltin, aeval, aintBin, bin_int, aload_bump, SS, reduceIte, reduceCtorEq, g6, faO0, faO3, o0, o3, k15, hpl5, h1]; first | done | exact rfl) ?_) | (refine aw_condF (by simp +decide only [aop, abuiltin, aeval, aintBin, bin_int, aload_bump, SS, reduceIte, reduceCtorEq, g6, faO0, faO3, o0, o3, k15, hpl5, h1]; first | done | exact rfl) ?_))
                exact ⟨rfl, (by repeat (first | assumption | (refine WF.bump ?_ _))), hE5.trans (by repeat (first | exact Keeps.refl _ _ | (refine Keeps.bumpR ?_ _))), (by simp only [n_bump] at *; omega), g3, g4, g6, g23, g24, g25, hg5, hO5.up (by repeat (first | exact Keeps.refl _ _ | (refine Keeps.bumpR ?_ _))), 10, _, g7, hys, hB5.up (by repeat (first | exact Keeps.refl _ _ | (refine Keeps.bumpR ?_ _))), .inr ⟨rfl, rfl⟩⟩
            · have k15 : (os[k].1 == 15) = false := beq_f h15
              repeat (first | (refine aw_seq ?_) | (refine aw_reg0 (by simp only [SZ, Nat.reduceAdd]; exact rfl) ?_) | (refine aw_reg (by decide +kernel) (by simp only [SZ, Nat.reduceAdd]; exact rfl) ?_) | (refine aw_regS (by decide +kernel) (by simp only [SZ, Nat.reduceAdd]; exact rfl) ?_) | (refine arl_nil ?_) | (refine aw_skip ?_) | (refine aw_block ?_) | (refine aw_exit ?_) | (refine aw_ret ?_) | (refine arl_cons rfl rfl (by simp +decide only [aop, abuiltin, aeval, aintBin, bin_int, aload_bump, SS, reduceIte, reduceCtorEq, g6, faO0, o0, k15]; exact rfl) (by first | rfl | assumption) rfl ?_) | (refine arl_none rfl rfl (by simp +decide only [aop, abuiltin, aeval, aintBin, bin_int, aload_bump, SS, reduceIte, reduceCtorEq, g6, faO0, o0, k15]; exact rfl) rfl rfl ?_) | (refine arl_off rfl rfl ?_) | (refine aw_condT (by simp +decide only [aop, abuiltin, aeval, aintBin, bin_int, aload_bump, SS, reduceIte, reduceCtorEq, g6, faO0, o0, k15]; first | done | exact rfl) ?_) | (refine aw_condF (by simp +decide only [aop, abuiltin, aeval, aintBin, bin_int, aload_bump, SS, reduceIte, reduceCtorEq, g6, faO0, o0, k15]; first | done | exact rfl) ?_))
              exact ⟨rfl, (by repeat (first | assumption | (refine WF.bump ?_ _))), hE5.trans (by repeat (first | exact Keeps.refl _ _ | (refine Keeps.bumpR ?_ _))), (by simp only [n_bump] at *; omega), g3, g4, g6, g23, g24, g25, hg5, hO5.up (by repeat (first | exact Keeps.refl _ _ | (refine Keeps.bumpR ?_ _))), 10, _, g7, hys, hB5.up (by repeat (first | exact Keeps.refl _ _ | (refine Keeps.bumpR ?_ _))), .inr ⟨rfl, rfl⟩⟩
        · rintro e fr2 s6 ⟨rfl, hw6, hE6, hn6, g3, g4, g6, g23, g24, g25, hg6, hO6, z, ys, g7, hys, hB6, hcase⟩
          have hN6 := hE6.n
          have hoa := opAgg hg6
          have hwk := wrap_succ (k := k) (by omega)
          have hkn : s2.n < s6.n := by omega
          rcases hcase with ⟨rfl, hok, rfl⟩ | ⟨rfl, rfl⟩
          · repeat (first | (refine aw_seq ?_) | (refine aw_reg0 (by simp only [SZ, Nat.reduceAdd]; exact rfl) ?_) | (refine aw_reg (by decide +kernel) (by simp only [SZ, Nat.reduceAdd]; exact rfl) ?_) | (refine aw_regS (by decide +kernel) (by simp only [SZ, Nat.reduceAdd]; exact rfl) ?_) | (refine arl_nil ?_) | (refine aw_skip ?_) | (refine aw_block ?_) | (refine aw_exit ?_) | (refine aw_ret ?_) | (refine arl_cons rfl rfl (by simp +decide only [aop, abuiltin, aeval, aintBin, bin_int, aload_bump, SS, reduceIte, reduceCtorEq, g7, g4, g6, hoa, litOp1]; exact rfl) (by first | rfl | assumption) rfl ?_) | (refine arl_none rfl rfl (by simp +decide only [aop, abuiltin, aeval, aintBin, bin_int, aload_bump, SS, reduceIte, reduceCtorEq, g7, g4, g6, hoa, litOp1]; exact rfl) rfl rfl ?_) | (refine arl_off rfl rfl ?_) | (refine aw_condT (by simp +decide only [aop, abuiltin, aeval, aintBin, bin_int, aload_bump, SS, reduceIte, reduceCtorEq, g7, g4, g6, hoa, litOp1]; first | done | exact rfl) ?_) | (refine aw_condF (by simp +decide only [aop, abuiltin, aeval, aintBin, bin_int, aload_bump, SS, reduceIte, reduceCtorEq, g7, g4, g6, hoa, litOp1]; first | done | exact rfl) ?_))
            refine arl_appX (k := opK) (K0 := fun g => g = s2.n) (L0 := fun _ g => g < st.n) (Kx := fun _ => True) (Kn := fun g => g < st.n) (K := fun g => g = s2.n) (L := fun _ g => g < st.n) (xs := kept) (ns := [os[k]]) TOP rfl rfl rfl (hO6.up (by repeat (first | assumption | exact Keeps.refl _ _ | (refine Keeps.bumpR ?_ _) | (refine Keeps.put ?_ (by assumption) (by simp only [n_bump, n_put, n_touch, n_kill] at *; omega))))) (RdL.one ⟨pv, rfl, ?pvR⟩ rfl _ trivial _) (fun g h h' => by omega) ⟨by simp only [n_bump]; omega, fun h => absurd h hnn⟩ (fun _ h => h) (fun _ _ _ h => h) (fun _ _ _ _ h => h) ?hfr (by simp; omega) (by simp; omega) ?_
            case pvR => exact (hp4.up hE6).up (by repeat (first | assumption | exact Keeps.refl _ _ | (refine Keeps.bumpR ?_ _) | (refine Keeps.put ?_ (by assumption) (by simp only [n_bump, n_put, n_touch, n_kill] at *; omega))))
            case hfr =>
              rw [get_put_ne _ (by omega)]
              exact fresh hw6 (by simp only [n_bump]; omega)
            intro y s7 hO7 hn7 hE7 hwf7
            have hw7 : WF s7 := hwf7 (by repeat (first | assumption | (refine WF.bump ?_ _) | (refine WF.put ?_ (by simp only [n_bump, n_put, n_touch, n_kill] at *; omega) (by simp only [n_bump, n_put, n_touch, n_kill] at *; omega)))) (by simp only [n_bump, n_put, n_touch, n_kill] at *; omega)
            have hyn := hO7.ne
            have hys7 := hO7.solid
            have hf7 : ((kept ++ [os[k]]).map encO).flatten = (kept.map encO).flatten ++ encO os[k] := by simp
            replace hE7 : Keeps (fun g => g = s2.n) s6 s7 := Keeps.trans (Keeps.mono (G := fun _ => False) (show Ext s6 _ from (by repeat (first | assumption | exact Keeps.refl _ _ | (refine Keeps.bumpR ?_ _) | (refine Keeps.put ?_ (by assumption) (by simp only [n_bump, n_put, n_touch, n_kill] at *; omega))))) (fun _ h => h.elim)) hE7
            have hS7 : Ext st s7 := Keeps.call hE6 hE7 hw (fun g h => .inr (by omega))
            have hB7 := hB6.keep hE7 (fun g h h' => h.2.1 h')
            repeat (first | (refine aw_seq ?_) | (refine aw_reg0 (by simp only [SZ, Nat.reduceAdd]; exact rfl) ?_) | (refine aw_reg (by decide +kernel) (by simp only [SZ, Nat.reduceAdd]; exact rfl) ?_) | (refine aw_regS (by decide +kernel) (by simp only [SZ, Nat.reduceAdd]; exact rfl) ?_) | (refine arl_nil ?_) | (refine aw_skip ?_) | (refine aw_block ?_) | (refine aw_exit ?_) | (refine aw_ret ?_) | (refine arl_cons rfl rfl (by simp +decide only [aop, abuiltin, aeval, aintBin, bin_int, aload_bump, SS, reduceIte, reduceCtorEq, g25, hwk]; exact rfl) (by first | rfl | assumption) rfl ?_) | (refine arl_none rfl rfl (by simp +decide only [aop, abuiltin, aeval, aintBin, bin_int, aload_bump, SS, reduceIte, reduceCtorEq, g25, hwk]; exact rfl) rfl rfl ?_) | (refine arl_off rfl rfl ?_) | (refine aw_condT (by simp +decide only [aop, abuiltin, aeval, aintBin, bin_int, aload_bump, SS, reduceIte, reduceCtorEq, g25, hwk]; first | done | exact rfl) ?_) | (refine aw_condF (by simp +decide only [aop, abuiltin, aeval, aintBin, bin_int, aload_bump, SS, reduceIte, reduceCtorEq, g25, hwk]; first | done | exact rfl) ?_))
            refine ⟨os.length - (k + 1), by omega, hS7.trans (by repeat (first | exact Keeps.refl _ _ | (refine Keeps.bumpR ?_ _))), k + 1, kept ++ [os[k]], by omega, rfl, g3, g23, g24, rfl, ?_, by simp; omega, (by simp only [n_bump, n_put] at *; omega), by rw [hf7]; exact hys, ?_, hO7.up (by repeat (first | exact Keeps.refl _ _ | (refine Keeps.bumpR ?_ _))), hyn⟩
            · intro o ho
              rcases List.mem_append.1 ho with ho | ho
              · exact hkept o ho
              · rw [List.mem_singleton.1 ho]
                exact ⟨List.getElem_mem hlt, hok⟩
            · rw [hf7]
              exact (hB7.mono (fun g h => ⟨h.1, h.2.1⟩)).up (by repeat (first | exact Keeps.refl _ _ | (refine Keeps.bumpR ?_ _)))
          · repeat (first | (refine aw_seq ?_) | (refine aw_reg0 (by simp only [SZ, Nat.reduceAdd]; exact rfl) ?_) | (refine aw_reg (by decide +kernel) (by simp only [SZ, Nat.reduceAdd]; exact rfl) ?_) | (refine aw_regS (by decide +kernel) (by simp only [SZ, Nat.reduceAdd]; exact rfl) ?_) | (refine arl_nil ?_) | (refine aw_skip ?_) | (refine aw_block ?_) | (refine aw_exit ?_) | (refine aw_ret ?_) | (refine arl_cons rfl rfl (by simp +decide only [aop, abuiltin, aeval, aintBin, bin_int, aload_bump, SS, reduceIte, reduceCtorEq, g7, g25, hwk]; exact rfl) (by first | rfl | assumption) rfl ?_) | (refine arl_none rfl rfl (by simp +decide only [aop, abuiltin, aeval, aintBin, bin_int, aload_bump, SS, reduceIte, reduceCtorEq, g7, g25, hwk]; exact rfl) rfl rfl ?_) | (refine arl_off rfl rfl ?_) | (refine aw_condT (by simp +decide only [aop, abuiltin, aeval, aintBin, bin_int, aload_bump, SS, reduceIte, reduceCtorEq, g7, g25, hwk]; first | done | exact rfl) ?_) | (refine aw_condF (by simp +decide only [aop, abuiltin, aeval, aintBin, bin_int, aload_bump, SS, reduceIte, reduceCtorEq, g7, g25, hwk]; first | done | exact rfl) ?_))
            exact ⟨os.length - (k + 1), by omega, hE6.trans (by repeat (first | exact Keeps.refl _ _ | (refine Keeps.bumpR ?_ _))), k + 1, kept, by omega, rfl, g3, g23, g24, rfl, hkept, by omega, (by simp only [n_bump]; omega), hfl, (hB6.mono (fun g h => ⟨h.1, h.2.1⟩)).up (by repeat (first | exact Keeps.refl _ _ | (refine Keeps.bumpR ?_ _))), (by show OwX opK _ _ _ OP (fr2 4) kept; rw [g4]; exact hO6.up (by repeat (first | exact Keeps.refl _ _ | (refine Keeps.bumpR ?_ _)))), (by show fr2 4 ≠ _; rw [g4]; exact hnn)⟩
    · have hd : decide ((k : Int) < (os.length : Int)) = false := decide_eq_false (by omega)
      repeat (first | (refine aw_seq ?_) | (refine aw_reg0 (by simp only [SZ, Nat.reduceAdd]; exact rfl) ?_) | (refine aw_reg (by decide +kernel) (by simp only [SZ, Nat.reduceAdd]; exact rfl) ?_) | (refine aw_regS (by decide +kernel) (by simp only [SZ, Nat.reduceAdd]; exact rfl) ?_) | (refine arl_nil ?_) | (refine aw_skip ?_) | (refine aw_block ?_) | (refine aw_exit ?_) | (refine aw_ret ?_) | (refine arl_cons rfl rfl (by simp +decide only [aop, abuiltin, aeval, aintBin, bin_int, aload_bump, SS, reduceIte, reduceCtorEq, f24, f25, hd]; exact rfl) (by first | rfl | assumption) rfl ?_) | (refine arl_none rfl rfl (by simp +decide only [aop, abuiltin, aeval, aintBin, bin_int, aload_bump, SS, reduceIte, reduceCtorEq, f24, f25, hd]; exact rfl) rfl rfl ?_) | (refine arl_off rfl rfl ?_) | (refine aw_condT (by simp +decide only [aop, abuiltin, aeval, aintBin, bin_int, aload_bump, SS, reduceIte, reduceCtorEq, f24, f25, hd]; first | done | exact rfl) ?_) | (refine aw_condF (by simp +decide only [aop, abuiltin, aeval, aintBin, bin_int, aload_bump, SS, reduceIte, reduceCtorEq, f24, f25, hd]; first | done | exact rfl) ?_))
      exact ⟨rfl, hE.trans (by repeat (first | exact Keeps.refl _ _ | (refine Keeps.bumpR ?_ _))), kept, f3, hkept, by omega, hfl, hB.up (by repeat (first | exact Keeps.refl _ _ | (refine Keeps.bumpR ?_ _))), hO.up (by repeat (first | exact Keeps.refl _ _ | (refine Keeps.bumpR ?_ _)))⟩
  · refine ⟨hE2.trans (by repeat (first | assumption | exact Keeps.refl _ _ | (refine Keeps.bumpR ?_ _) | (refine Keeps.put ?_ (by assumption) (by simp only [n_bump, n_put, n_touch, n_kill] at *; omega)))), 0, [], by omega, rfl, rfl, rfl, rfl, rfl, by simp, by simp, (by simp only [n_bump, n_put] at *; omega), by simp, (hW2.mono (fun g h => ⟨by simp only [n_bump] at *; omega, by omega⟩)).up (by repeat (first | assumption | exact Keeps.refl _ _ | (refine Keeps.bumpR ?_ _) | (refine Keeps.put ?_ (by assumption) (by simp only [n_bump, n_put, n_touch, n_kill] at *; omega)))), OwX.new (k := opK) (s2.n + 0) (g := s2.n + 0) (by simp [St.put, St.bump]) (by omega), (fun h => by cases h)⟩
  rintro e fr sx ⟨hws, hns, rfl, hE, kept, f3, hkept, hkl, hfl, hB, hO⟩
  have hEn := hE.n
  generalize hkq : fr 4 = kp at hO
  have hkp := hO.solid
  have hby : ∀ x ∈ (kept.map encO).flatten, 0 ≤ x ∧ x < 256 := by
    intro x hx
    obtain ⟨l, h1, h2⟩ := List.mem_flatten.1 hx
    obtain ⟨o, h3, rfl⟩ := List.mem_map.1 h1
    unfold encO at h2
    split at h2
    · rcases (hkept o h3).2 with ⟨m, h5, h6⟩ | ⟨_, p, hp⟩
      · omega
      · rw [hp] at h2
        exact (hpl o (hkept o h3).1 p (by rw [hp]; simp)).2 x h2
    · exact bes_by _ _ x h2
  repeat (first | (refine aw_seq ?_) | (refine aw_reg0 (by simp only [SZ, Nat.reduceAdd]; exact rfl) ?_) | (refine aw_reg (by decide +kernel) (by simp only [SZ, Nat.reduceAdd]; exact rfl) ?_) | (refine aw_regS (by decide +kernel) (by simp only [SZ, Nat.reduceAdd]; exact rfl) ?_) | (refine arl_nil ?_) | (refine aw_skip ?_) | (refine aw_block ?_) | (refine aw_exit ?_) | (refine aw_ret ?_) | (refine arl_cons rfl rfl (by simp +decide only [aop, abuiltin, aeval, aintBin, bin_int, aload_bump, SS, reduceIte, reduceCtorEq, f3, hkq]; exact rfl) (by first | rfl | assumption) rfl ?_) | (refine arl_none rfl rfl (by simp +decide only [aop, abuiltin, aeval, aintBin, bin_int, aload_bump, SS, reduceIte, reduceCtorEq, f3, hkq]; exact rfl) rfl rfl ?_) | (refine arl_off rfl rfl ?_) | (refine aw_condT (by simp +decide only [aop, abuiltin, aeval, aintBin, bin_int, aload_bump, SS, reduceIte, reduceCtorEq, f3, hkq]; first | done | exact rfl) ?_) | (refine aw_condF (by simp +decide only [aop, abuiltin, aeval, aintBin, bin_int, aload_bump, SS, reduceIte, reduceCtorEq, f3, hkq]; first | done | exact rfl) ?_))
  refine arl_call rfl rfl rfl rfl rfl rfl ((wbytes_ok (by repeat (first | assumption | (refine WF.bump ?_ _))) (hB.up (by repeat (first | exact Keeps.refl _ _ | (refine Keeps.bumpR ?_ _)))) (by omega)).wf (by repeat (first | assumption | (refine WF.bump ?_ _) | (refine WF.put ?_ (by simp only [n_bump, n_put, n_touch, n_kill] at *; omega) (by simp only [n_bump, n_put, n_touch, n_kill] at *; omega)))) |>.mono ?_)
  rintro y sa ⟨hwa, hna, hEa, hys, hY⟩
  refine ⟨by first | rfl | assumption, ?_⟩
  replace hEa : Ext sx sa := Keeps.trans (by repeat (first | assumption | exact Keeps.refl _ _ | (refine Keeps.bumpR ?_ _) | (refine Keeps.put ?_ (by assumption) (by simp only [n_bump, n_put, n_touch, n_kill] at *; omega)))) hEa
  have hNa := hEa.n
  repeat (first | (refine aw_seq ?_) | (refine aw_reg0 (by simp only [SZ, Nat.reduceAdd]; exact rfl) ?_) | (refine aw_reg (by decide +kernel) (by simp only [SZ, Nat.reduceAdd]; exact rfl) ?_) | (refine aw_regS (by decide +kernel) (by simp only [SZ, Nat.reduceAdd]; exact rfl) ?_) | (refine arl_nil ?_) | (refine aw_skip ?_) | (refine aw_block ?_) | (refine aw_exit ?_) | (refine aw_ret ?_) | (refine arl_cons rfl rfl (by simp +decide only [aop, abuiltin, aeval, aintBin, bin_int, aload_bump, SS, reduceIte, reduceCtorEq, f3, hkq]; exact rfl) (by first | rfl | assumption) rfl ?_) | (refine arl_none rfl rfl (by simp +decide only [aop, abuiltin, aeval, aintBin, bin_int, aload_bump, SS, reduceIte, reduceCtorEq, f3, hkq]; exact rfl) rfl rfl ?_) | (refine arl_off rfl rfl ?_) | (refine aw_condT (by simp +decide only [aop, abuiltin, aeval, aintBin, bin_int, aload_bump, SS, reduceIte, reduceCtorEq, f3, hkq]; first | done | exact rfl) ?_) | (refine aw_condF (by simp +decide only [aop, abuiltin, aeval, aintBin, bin_int, aload_bump, SS, reduceIte, reduceCtorEq, f3, hkq]; first | done | exact rfl) ?_))
  refine arl_call rfl rfl rfl rfl rfl rfl ((newReader_ok (by repeat (first | assumption | (refine WF.bump ?_ _))) (hY.rd.up (by repeat (first | exact Keeps.refl _ _ | (refine Keeps.bumpR ?_ _)))) (by omega)).wf (by repeat (first | assumption | (refine WF.bump ?_ _) | (refine WF.put ?_ (by simp only [n_bump, n_put, n_touch, n_kill] at *; omega) (by simp only [n_bump, n_put, n_touch, n_kill] at *; omega)))) |>.mono ?_)
  rintro rd sb ⟨hwb, hnb, hEb, hrds, hR⟩
  refine ⟨by first | rfl | assumption, ?_⟩
  replace hEb : Ext sa sb := Keeps.trans (by repeat (first | assumption | exact Keeps.refl _ _ | (refine Keeps.bumpR ?_ _) | (refine Keeps.put ?_ (by assumption) (by simp only [n_bump, n_put, n_touch, n_kill] at *; omega)))) hEb
  have hNb := hEb.n
  replace hR := hR.lt hwb
  replace hEb := hEa.trans hEb
  replace hNb := hEb.n
  have hpr := hR.ne_nil Try.underlying41
  have hOr := (hO.rd.lt hws).up hEb
  have hln2 := RdE.len hOr TOP
  have hSb := hE.trans hEb
  repeat (first | (refine aw_seq ?_) | (refine aw_reg0 (by simp only [SZ, Nat.reduceAdd]; exact rfl) ?_) | (refine aw_reg (by decide +kernel) (by simp only [SZ, Nat.reduceAdd]; exact rfl) ?_) | (refine aw_regS (by decide +kernel) (by simp only [SZ, Nat.reduceAdd]; exact rfl) ?_) | (refine arl_nil ?_) | (refine aw_skip ?_) | (refine aw_block ?_) | (refine aw_exit ?_) | (refine aw_ret ?_) | (refine arl_cons rfl rfl (by simp +decide only [aop, abuiltin, aeval, aintBin, bin_int, aload_bump, SS, reduceIte, reduceCtorEq, hpr, hkq, hln2]; exact rfl) (by first | rfl | assumption) rfl ?_) | (refine arl_none rfl rfl (by simp +decide only [aop, abuiltin, aeval, aintBin, bin_int, aload_bump, SS, reduceIte, reduceCtorEq, hpr, hkq, hln2]; exact rfl) rfl rfl ?_) | (refine arl_off rfl rfl ?_) | (refine aw_condT (by simp +decide only [aop, abuiltin, aeval, aintBin, bin_int, aload_bump, SS, reduceIte, reduceCtorEq, hpr, hkq, hln2]; first | done | exact rfl) ?_) | (refine aw_condF (by simp +decide only [aop, abuiltin, aeval, aintBin, bin_int, aload_bump, SS, reduceIte, reduceCtorEq, hpr, hkq, hln2]; first | done | exact rfl) ?_))
  refine AW.mono (AW.wf (aw_rounds_wf (fun d fr s => Keeps (fun g => sa.n ≤ g ∧ g < sb.n) sb s ∧ ∃ (k : Nat), k ≤ kept.length ∧ d = kept.length - k ∧ fr 8 = rd ∧ fr 82 = kp ∧ fr 83 = i64 kept.length ∧ fr 84 = i64 k ∧ BxO s (fun g => sa.n ≤ g ∧ g < sb.n) RD rd (kept.map encO).flatten ((kept.take k).map encO).flatten.length)
    (Q := fun e fr s => e = .exit 2 ∧ Keeps (fun g => sa.n ≤ g ∧ g < sb.n) sb s ∧ fr 8 = rd ∧ BxO s (fun g => sa.n ≤ g ∧ g < sb.n) RD rd (kept.map encO).flatten ((kept.map encO).flatten.length : Nat)) ?_ kept.length _ _ (by repeat (first | assumption | (refine WF.bump ?_ _))) ?_) (by repeat (first | assumption | (refine WF.bump ?_ _)))) ?_
  · rintro d fr s hws ⟨hE, k, hk, rfl, f8, f82, f83, f84, hR⟩
    have hEn := hE.n
    have hOs := hOr.keep hE (by intro g h h'; have := h.2; omega)
    by_cases hlt : k < kept.length
    · have hd : decide ((k : Int) < (kept.length : Int)) = true := decide_eq_true (by omega)
      obtain ⟨hmem, hok⟩ := hkept _ (List.getElem_mem hlt)
      obtain ⟨q, pv, hp1, hp2, hp3, hp4, hp5, hp6⟩ := op_load hOs k hlt
      have hfa := flat_at encO kept k hlt
      have hfs := flat_step encO kept k hlt
      have hfl2 := flat_step encO kept k hlt
      have hlen : ((kept.take k).map encO).flatten.length + (encO kept[k]).length ≤ (kept.map encO).flatten.length := by
        have := congrArg List.length hfa
        rw [List.length_take, List.length_drop] at this
        have h2 : ((kept.take k).map encO).flatten.length ≤ (kept.map encO).flatten.length := by
          have := congrArg (fun l => (l.map encO).flatten.length) (List.take_append_drop k kept)
          simp only [List.map_append, List.flatten_append, List.length_append] at this
          omega
        omega
      have hlen2 : (((kept.take (k + 1)).map encO).flatten.length : Nat) = ((kept.take k).map encO).flatten.length + (encO kept[k]).length := by rw [hfs, List.length_append]
      repeat (first | (refine aw_seq ?_) | (refine aw_reg0 (by simp only [SZ, Nat.reduceAdd]; exact rfl) ?_) | (refine aw_reg (by decide +kernel) (by simp only [SZ, Nat.reduceAdd]; exact rfl) ?_) | (refine aw_regS (by decide +kernel) (by simp only [SZ, Nat.reduceAdd]; exact rfl) ?_) | (refine arl_nil ?_) | (refine aw_skip ?_) | (refine aw_block ?_) | (refine aw_exit ?_) | (refine aw_ret ?_))
      repeat (first | (refine aw_seq ?_) | (refine aw_reg0 (by simp only [SZ, Nat.reduceAdd]; exact rfl) ?_) | (refine aw_reg (by decide +kernel) (by simp only [SZ, Nat.reduceAdd]; exact rfl) ?_) | (refine aw_regS (by decide +kernel) (by simp only [SZ, Nat.reduceAdd]; exact rfl) ?_) | (refine arl_nil ?_) | (refine aw_skip ?_) | (refine aw_block ?_) | (refine aw_exit ?_) | (refine aw_ret ?_) | (refine arl_cons rfl rfl (by simp +decide only [aop, abuiltin, aeval, aintBin, bin_int, aload_bump, SS, reduceIte, reduceCtorEq, f83, f84, hd]; exact rfl) (by first | rfl | assumption) rfl ?_) | (refine arl_none rfl rfl (by simp +decide only [aop, abuiltin, aeval, aintBin, bin_int, aload_bump, SS, reduceIte, reduceCtorEq, f83, f84, hd]; exact rfl) rfl rfl ?_) | (refine arl_off rfl rfl ?_) | (refine aw_condT (by simp +decide only [aop, abuiltin, aeval, aintBin, bin_int, aload_bump, SS, reduceIte, reduceCtorEq, f83, f84, hd]; first | done | exact rfl) ?_) | (refine aw_condF (by simp +decide only [aop, abuiltin, aeval, aintBin, bin_int, aload_bump, SS, reduceIte, reduceCtorEq, f83, f84, hd]; first | done | exact rfl) ?_))
      refine arl_cons rfl rfl (by simp +decide only [aop, abuiltin, aeval, aintBin, bin_int, aload_bump, SS, reduceIte, reduceCtorEq, f82, f84, hp1]; exact rfl) (by first | rfl | assumption) rfl ?_
      refine arl_cons rfl rfl (by simp +decide only [aop, abuiltin, aeval, aintBin, bin_int, aload_bump, SS, reduceIte, reduceCtorEq, hp3]; exact rfl) (by first | rfl | assumption) rfl ?_
      refine arl_alloc rfl rfl rfl szOP zOP (fresh hws (by simp only [n_bump]; omega)) ?_
      intro s3 hn3 hwf3 hE3 hg3 hD3
      have hw3 : WF s3 := hwf3 (by repeat (first | assumption | (refine WF.bump ?_ _))) (by simp only [n_bump, n_put, n_touch, n_kill] at *; omega)
      refine arl_storeW (e := OP) (cs := [i64 kept[k].1, i64 kept[k].2.1, i64 kept[k].2.2.1, pv]) rfl rfl rfl rfl rfl hg3 szOP rfl rfl rfl (by simp [hp6]; exact ⟨rfl, rfl, rfl⟩) rfl ?_
      intro s4 hn4 hwf4 hE4 hg4 hD4
      have hw4 : WF s4 := hwf4 hw3
      replace hE4 : Ext s s4 := Keeps.call ((show Ext s _ from (by repeat (first | exact Keeps.refl _ _ | (refine Keeps.bumpR ?_ _)))).trans hE3) hE4 hws (by simp only [n_bump]; intro g h; right; omega)
      have hN4 := hE4.n
      obtain ⟨o0, o1, o2, o3⟩ := opLd hg4
      have hR4 := hR.up hE4
      have hwk := wrap_succ (k := k) (by omega)
      have hsb : Keeps (fun g => sa.n ≤ g ∧ g < sb.n) sb s4 := hE.trans (hE4.mono (fun _ h => h.elim))
      rcases hok with hnum | ⟨h15, p, hp⟩
      · have k15 : (kept[k].1 == 15) = false := beq_f (fun e => by obtain ⟨m, h1, h2⟩ := hnum; omega)
        obtain ⟨m, hm, hm4⟩ := hnum
        have henc : encO kept[k] = bes (IntKind.u64.wrap (cutv kept[k].2.2.1 m)) m := by
          unfold encO
          rw [if_neg (by rw [hm]; omega), hm, Int.toNat_natCast]
        have hel : (encO kept[k]).length = m := by rw [henc, bes_len]
        have hm4' := hm4
        rw [hel, henc] at hfa
        rw [hel] at hlen hlen2
        have hsv := cut_sval (v := kept[k].2.2.1) m hm4 (hn _ hmem)
        rw [hm] at o0 k15
        repeat (first | (refine aw_seq ?_) | (refine aw_reg0 (by simp only [SZ, Nat.reduceAdd]; exact rfl) ?_) | (refine aw_reg (by decide +kernel) (by simp only [SZ, Nat.reduceAdd]; exact rfl) ?_) | (refine aw_regS (by decide +kernel) (by simp only [SZ, Nat.reduceAdd]; exact rfl) ?_) | (refine arl_nil ?_) | (refine aw_skip ?_) | (refine aw_block ?_) | (refine aw_exit ?_) | (refine aw_ret ?_) | (refine arl_cons rfl rfl (by simp +decide only [aop, abuiltin, aeval, aintBin, bin_int, aload_bump, SS, reduceIte, reduceCtorEq, faO0, o0, k15, f8]; exact rfl) (by first | rfl | assumption) rfl ?_) | (refine arl_none rfl rfl (by simp +decide only [aop, abuiltin, aeval, aintBin, bin_int, aload_bump, SS, reduceIte, reduceCtorEq, faO0, o0, k15, f8]; exact rfl) rfl rfl ?_) | (refine arl_off rfl rfl ?_) | (refine aw_condT (by simp +decide only [aop, abuiltin, aeval, aintBin, bin_int, aload_bump, SS, reduceIte, reduceCtorEq, faO0, o0, k15, f8]; first | done | exact rfl) ?_) | (refine aw_condF (by simp +decide only [aop, abuiltin, aeval, aintBin, bin_int, aload_bump, SS, reduceIte, reduceCtorEq, faO0, o0, k15, f8]; first | done | exact rfl) ?_))
        refine arl_call rfl rfl rfl rfl rfl rfl ((rnum_ok (by repeat (first | assumption | (refine WF.bump ?_ _))) (hR4.up (by repeat (first | exact Keeps.refl _ _ | (refine Keeps.bumpR ?_ _)))) m hm4 (by omega) (by omega) hby).wf (by repeat (first | assumption | (refine WF.bump ?_ _) | (refine WF.put ?_ (by simp only [n_bump, n_put, n_touch, n_kill] at *; omega) (by simp only [n_bump, n_put, n_touch, n_kill] at *; omega)))) |>.mono ?_)
        rintro r s5 ⟨hw5, hn5, hE5, rfl, hR5⟩
        rw [if_pos (by omega)] at hR5 ⊢
        refine ⟨rfl, ?_⟩
        replace hE5 : Keeps (fun g => sa.n ≤ g ∧ g < sb.n) s4 s5 := Keeps.trans (Keeps.mono (G := fun _ => False) (show Ext s4 _ from (by repeat (first | exact Keeps.refl _ _ | (refine Keeps.bumpR ?_ _)))) (fun _ h => h.elim)) hE5
        have hN5 := hE5.n
        have hg5 := hE5.get _ _ hg4 (fun h => by have := h.2; simp only [n_bump] at *; omega)
        obtain ⟨q0, q1, q2, q3⟩ := opLd hg5
        rw [hm] at q0
        rw [hfa, hsv]
        have hbq : (cutv kept[k].2.2.1 (m : Int) != cutv kept[k].2.2.1 (m : Int)) = false := by simp
        repeat (first | (refine aw_seq ?_) | (refine aw_reg0 (by simp only [SZ, Nat.reduceAdd]; exact rfl) ?_) | (refine aw_reg (by decide +kernel) (by simp only [SZ, Nat.reduceAdd]; exact rfl) ?_) | (refine aw_regS (by decide +kernel) (by simp only [SZ, Nat.reduceAdd]; exact rfl) ?_) | (refine arl_nil ?_) | (refine aw_skip ?_) | (refine aw_block ?_) | (refine aw_exit ?_) | (refine aw_ret ?_) | (refine arl_cons rfl rfl (by simp +decide only [aop, abuiltin, aeval, aintBin, bin_int, aload_bump, SS, reduceIte, reduceCtorEq, List.getElem?_cons_zero, List.getElem?_cons_succ, faO0, faO2, q0, q2]; exact rfl) (by first | rfl | assumption) rfl ?_) | (refine arl_none rfl rfl (by simp +decide only [aop, abuiltin, aeval, aintBin, bin_int, aload_bump, SS, reduceIte, reduceCtorEq, List.getElem?_cons_zero, List.getElem?_cons_succ, faO0, faO2, q0, q2]; exact rfl) rfl rfl ?_) | (refine arl_off rfl rfl ?_) | (refine aw_condT (by simp +decide only [aop, abuiltin, aeval, aintBin, bin_int, aload_bump, SS, reduceIte, reduceCtorEq, List.getElem?_cons_zero, List.getElem?_cons_succ, faO0, faO2, q0, q2]; first | done | exact rfl) ?_) | (refine aw_condF (by simp +decide only [aop, abuiltin, aeval, aintBin, bin_int, aload_bump, SS, reduceIte, reduceCtorEq, List.getElem?_cons_zero, List.getElem?_cons_succ, faO0, faO2, q0, q2]; first | done | exact rfl) ?_))
        refine arl_call rfl rfl rfl rfl rfl rfl ((cut_ok _ _).wf (by repeat (first | assumption | (refine WF.bump ?_ _) | (refine WF.put ?_ (by simp only [n_bump, n_put, n_touch, n_kill] at *; omega) (by simp only [n_bump, n_put, n_touch, n_kill] at *; omega)))) |>.mono ?_)
        rintro r s6 ⟨hw6, hn6, hE6, rfl⟩
        refine ⟨by first | rfl | assumption, ?_⟩
        replace hE6 : Ext s5 s6 := Keeps.trans (by repeat (first | assumption | exact Keeps.refl _ _ | (refine Keeps.bumpR ?_ _) | (refine Keeps.put ?_ (by assumption) (by simp only [n_bump, n_put, n_touch, n_kill] at *; omega)))) hE6
        have hN6 := hE6.n
        repeat (first | (refine aw_seq ?_) | (refine aw_reg0 (by simp only [SZ, Nat.reduceAdd]; exact rfl) ?_) | (refine aw_reg (by decide +kernel) (by simp only [SZ, Nat.reduceAdd]; exact rfl) ?_) | (refine aw_regS (by decide +kernel) (by simp only [SZ, Nat.reduceAdd]; exact rfl) ?_) | (refine arl_nil ?_) | (refine aw_skip ?_) | (refine aw_block ?_) | (refine aw_exit ?_) | (refine aw_ret ?_) | (refine arl_cons rfl rfl (by simp +decide only [aop, abuiltin, aeval, aintBin, bin_int, aload_bump, SS, reduceIte, reduceCtorEq, hbq, f84, hwk]; exact rfl) (by first | rfl | assumption) rfl ?_) | (refine arl_none rfl rfl (by simp +decide only [aop, abuiltin, aeval, aintBin, bin_int, aload_bump, SS, reduceIte, reduceCtorEq, hbq, f84, hwk]; exact rfl) rfl rfl ?_) | (refine arl_off rfl rfl ?_) | (refine aw_condT (by simp +decide only [aop, abuiltin, aeval, aintBin, bin_int, aload_bump, SS, reduceIte, reduceCtorEq, hbq, f84, hwk]; first | done | exact rfl) ?_) | (refine aw_condF (by simp +decide only [aop, abuiltin, aeval, aintBin, bin_int, aload_bump, SS, reduceIte, reduceCtorEq, hbq, f84, hwk]; first | done | exact rfl) ?_))
        refine ⟨kept.length - (k + 1), by omega, (hsb.trans hE5).trans (Keeps.mono (hE6.trans (by repeat (first | exact Keeps.refl _ _ | (refine Keeps.bumpR ?_ _)))) (fun _ h => h.elim)), k + 1, by omega, rfl, f8, f82, f83, rfl, ?_⟩
        rw [hlen2]
        exact (hR5.up hE6).up (by repeat (first | exact Keeps.refl _ _ | (refine Keeps.bumpR ?_ _)))
      · have k15 : (kept[k].1 == 15) = true := beq_t h15
        have henc : encO kept[k] = p := by
          unfold encO
          rw [if_pos h15, hp]
          rfl
        rw [henc] at hfa hlen hlen2
        rw [hp] at hp4
        obtain ⟨q1, c, hc1, hc2, hc3, hc4, hc5⟩ := row_at (hp4.up hE4) .i64 0 (by simp)
        replace hc1 : aindexAddr Try.prog 22 pv (.pl (.int .i64 0)) = some q1 := hc1
        replace hc5 : RdB s4 _ c p := hc5
        have hcl := hc5.len
        repeat (first | (refine aw_seq ?_) | (refine aw_reg0 (by simp only [SZ, Nat.reduceAdd]; exact rfl) ?_) | (refine aw_reg (by decide +kernel) (by simp only [SZ, Nat.reduceAdd]; exact rfl) ?_) | (refine aw_regS (by decide +kernel) (by simp only [SZ, Nat.reduceAdd]; exact rfl) ?_) | (refine arl_nil ?_) | (refine aw_skip ?_) | (refine aw_block ?_) | (refine aw_exit ?_) | (refine aw_ret ?_) | (refine arl_cons rfl rfl (by simp +decide only [aop, abuiltin, aeval, aintBin, bin_int, aload_bump, SS, reduceIte, reduceCtorEq, faO0, faO3, o0, o3, k15, f8, hc1, hc3, hcl]; exact rfl) (by first | rfl | assumption) rfl ?_) | (refine arl_none rfl rfl (by simp +decide only [aop, abuiltin, aeval, aintBin, bin_int, aload_bump, SS, reduceIte, reduceCtorEq, faO0, faO3, o0, o3, k15, f8, hc1, hc3, hcl]; exact rfl) rfl rfl ?_) | (refine arl_off rfl rfl ?_) | (refine aw_condT (by simp +decide only [aop, abuiltin, aeval, aintBin, bin_int, aload_bump, SS, reduceIte, reduceCtorEq, faO0, faO3, o0, o3, k15, f8, hc1, hc3, hcl]; first | done | exact rfl) ?_) | (refine aw_condF (by simp +decide only [aop, abuiltin, aeval, aintBin, bin_int, aload_bump, SS, reduceIte, reduceCtorEq, faO0, faO3, o0, o3, k15, f8, hc1, hc3, hcl]; first | done | exact rfl) ?_))
        refine arl_call rfl rfl rfl rfl rfl rfl ((rtake_ok (by repeat (first | assumption | (refine WF.bump ?_ _))) (hR4.up (by repeat (first | exact Keeps.refl _ _ | (refine Keeps.bumpR ?_ _)))) (p.length : Int) (by omega) (by omega)).wf (by repeat (first | assumption | (refine WF.bump ?_ _) | (refine WF.put ?_ (by simp only [n_bump, n_put, n_touch, n_kill] at *; omega) (by simp only [n_bump, n_put, n_touch, n_kill] at *; omega)))) |>.mono ?_)
        rintro r s5 ⟨hw5, hn5, hE5, x, rfl, hxs, hx, hR5⟩
        refine ⟨rfl, ?_⟩
        rw [if_pos (by omega), Int.toNat_natCast] at hx hR5
        rw [if_neg (by omega), if_neg (by omega)]
        rw [hfa] at hx
        replace hE5 : Keeps (fun g => sa.n ≤ g ∧ g < sb.n) s4 s5 := Keeps.trans (Keeps.mono (G := fun _ => False) (show Ext s4 _ from (by repeat (first | exact Keeps.refl _ _ | (refine Keeps.bumpR ?_ _)))) (fun _ h => h.elim)) hE5
        have hN5 := hE5.n
        have hg5 := hE5.get _ _ hg4 (fun h => by have := h.2; simp only [n_bump] at *; omega)
        obtain ⟨q0, q1', q2, q3⟩ := opLd hg5
        obtain ⟨q1, c, hc1, hc2, hc3, hc4, hc5⟩ := row_at ((hp4.up hE4).keep hE5 (by intro g h h'; have := h.2; omega)) .i64 0 (by simp)
        replace hc1 : aindexAddr Try.prog 22 pv (.pl (.int .i64 0)) = some q1 := hc1
        replace hc5 : RdB s5 _ c p := hc5
        repeat (first | (refine aw_seq ?_) | (refine aw_reg0 (by simp only [SZ, Nat.reduceAdd]; exact rfl) ?_) | (refine aw_reg (by decide +kernel) (by simp only [SZ, Nat.reduceAdd]; exact rfl) ?_) | (refine aw_regS (by decide +kernel) (by simp only [SZ, Nat.reduceAdd]; exact rfl) ?_) | (refine arl_nil ?_) | (refine aw_skip ?_) | (refine aw_block ?_) | (refine aw_exit ?_) | (refine aw_ret ?_) | (refine arl_cons rfl rfl (by simp +decide only [aop, abuiltin, aeval, aintBin, bin_int, aload_bump, SS, reduceIte, reduceCtorEq, List.getElem?_cons_zero, List.getElem?_cons_succ, faO3, q3, hc1, hc3]; exact rfl) (by first | rfl | assumption) rfl ?_) | (refine arl_none rfl rfl (by simp +decide only [aop, abuiltin, aeval, aintBin, bin_int, aload_bump, SS, reduceIte, reduceCtorEq, List.getElem?_cons_zero, List.getElem?_cons_succ, faO3, q3, hc1, hc3]; exact rfl) rfl rfl ?_) | (refine arl_off rfl rfl ?_) | (refine aw_condT (by simp +decide only [aop, abuiltin, aeval, aintBin, bin_int, aload_bump, SS, reduceIte, reduceCtorEq, List.getElem?_cons_zero, List.getElem?_cons_succ, faO3, q3, hc1, hc3]; first | done | exact rfl) ?_) | (refine aw_condF (by simp +decide only [aop, abuiltin, aeval, aintBin, bin_int, aload_bump, SS, reduceIte, reduceCtorEq, List.getElem?_cons_zero, List.getElem?_cons_succ, faO3, q3, hc1, hc3]; first | done | exact rfl) ?_))
        refine arl_call rfl rfl rfl rfl rfl rfl ((same_self (by repeat (first | assumption | (refine WF.bump ?_ _))) (hx.rd.up (by repeat (first | exact Keeps.refl _ _ | (refine Keeps.bumpR ?_ _)))) (hc5.up (by repeat (first | exact Keeps.refl _ _ | (refine Keeps.bumpR ?_ _)))) (by omega)).wf (by repeat (first | assumption | (refine WF.bump ?_ _) | (refine WF.put ?_ (by simp only [n_bump, n_put, n_touch, n_kill] at *; omega) (by simp only [n_bump, n_put, n_touch, n_kill] at *; omega)))) |>.mono ?_)
        rintro r s6 ⟨hw6, hn6, hE6, rfl⟩
        refine ⟨by first | rfl | assumption, ?_⟩
        replace hE6 : Ext s5 s6 := Keeps.trans (by repeat (first | assumption | exact Keeps.refl _ _ | (refine Keeps.bumpR ?_ _) | (refine Keeps.put ?_ (by assumption) (by simp only [n_bump, n_put, n_touch, n_kill] at *; omega)))) hE6
        have hN6 := hE6.n
        repeat (first | (refine aw_seq ?_) | (refine aw_reg0 (by simp only [SZ, Nat.reduceAdd]; exact rfl) ?_) | (refine aw_reg (by decide +kernel) (by simp only [SZ, Nat.reduceAdd]; exact rfl) ?_) | (refine aw_regS (by decide +kernel) (by simp only [SZ, Nat.reduceAdd]; exact rfl) ?_) | (refine arl_nil ?_) | (refine aw_skip ?_) | (refine aw_block ?_) | (refine aw_exit ?_) | (refine aw_ret ?_) | (refine arl_cons rfl rfl (by simp +decide only [aop, abuiltin, aeval, aintBin, bin_int, aload_bump, SS, reduceIte, reduceCtorEq, f84, hwk]; exact rfl) (by first | rfl | assumption) rfl ?_) | (refine arl_none rfl rfl (by simp +decide only [aop, abuiltin, aeval, aintBin, bin_int, aload_bump, SS, reduceIte, reduceCtorEq, f84, hwk]; exact rfl) rfl rfl ?_) | (refine arl_off rfl rfl ?_) | (refine aw_condT (by simp +decide only [aop, abuiltin, aeval, aintBin, bin_int, aload_bump, SS, reduceIte, reduceCtorEq, f84, hwk]; first | done | exact rfl) ?_) | (refine aw_condF (by simp +decide only [aop, abuiltin, aeval, aintBin, bin_int, aload_bump, SS, reduceIte, reduceCtorEq, f84, hwk]; first | done | exact rfl) ?_))
        refine ⟨kept.length - (k + 1), by omega, (hsb.trans hE5).trans (Keeps.mono (hE6.trans (by repeat (first | exact Keeps.refl _ _ | (refine Keeps.bumpR ?_ _)))) (fun _ h => h.elim)), k + 1, by omega, rfl, f8, f82, f83, rfl, ?_⟩
        rw [hlen2]
        exact ((hR5.mono (fun g h => h.1)).up hE6).up (by repeat (first | exact Keeps.refl _ _ | (refine Keeps.bumpR ?_ _)))
    · have hd : decide ((k : Int) < (kept.length : Int)) = false := decide_eq_false (by omega)
      obtain rfl : k = kept.length := by omega
      rw [List.take_length] at hR
      repeat (first | (refine aw_seq ?_) | (refine aw_reg0 (by simp only [SZ, Nat.reduceAdd]; exact rfl) ?_) | (refine aw_reg (by decide +kernel) (by simp only [SZ, Nat.reduceAdd]; exact rfl) ?_) | (refine aw_regS (by decide +kernel) (by simp only [SZ, Nat.reduceAdd]; exact rfl) ?_) | (refine arl_nil ?_) | (refine aw_skip ?_) | (refine aw_block ?_) | (refine aw_exit ?_) | (refine aw_ret ?_) | (refine arl_cons rfl rfl (by simp +decide only [aop, abuiltin, aeval, aintBin, bin_int, aload_bump, SS, reduceIte, reduceCtorEq, f83, f84, hd]; exact rfl) (by first | rfl | assumption) rfl ?_) | (refine arl_none rfl rfl (by simp +decide only [aop, abuiltin, aeval, aintBin, bin_int, aload_bump, SS, reduceIte, reduceCtorEq, f83, f84, hd]; exact rfl) rfl rfl ?_) | (refine arl_off rfl rfl ?_) | (refine aw_condT (by simp +decide only [aop, abuiltin, aeval, aintBin, bin_int, aload_bump, SS, reduceIte, reduceCtorEq, f83, f84, hd]; first | done | exact rfl) ?_) | (refine aw_condF (by simp +decide only [aop, abuiltin, aeval, aintBin, bin_int, aload_bump, SS, reduceIte, reduceCtorEq, f83, f84, hd]; first | done | exact rfl) ?_))
      exact ⟨rfl, hE.trans (Keeps.mono (G := fun _ => False) (by repeat (first | exact Keeps.refl _ _ | (refine Keeps.bumpR ?_ _))) (fun _ h => h.elim)), f8, hR.up (by repeat (first | exact Keeps.refl _ _ | (refine Keeps.bumpR ?_ _)))⟩
  · exact ⟨Keeps.mono (G := fun _ => False) (by repeat (first | exact Keeps.refl _ _ | (refine Keeps.bumpR ?_ _))) (fun _ h => h.elim), 0, by omega, rfl, rfl, rfl, rfl, rfl, hR.up (by repeat (first | exact Keeps.refl _ _ | (refine Keeps.bumpR ?_ _)))⟩
  rintro e fr sz ⟨hws, hns, rfl, hE, f8, hR⟩
  repeat (first | (refine aw_seq ?_) | (refine aw_reg0 (by simp only [SZ, Nat.reduceAdd]; exact rfl) ?_) | (refine aw_reg (by decide +kernel) (by simp only [SZ, Nat.reduceAdd]; exact rfl) ?_) | (refine aw_regS (by decide +kernel) (by simp only [SZ, Nat.reduceAdd]; exact rfl) ?_) | (refine arl_nil ?_) | (refine aw_skip ?_) | (refine aw_block ?_) | (refine aw_exit ?_) | (refine aw_ret ?_) | (refine arl_cons rfl rfl (by simp +decide only [aop, abuiltin, aeval, aintBin, bin_int, aload_bump, SS, reduceIte, reduceCtorEq, f8]; exact rfl) (by first | rfl | assumption) rfl ?_) | (refine arl_none rfl rfl (by simp +decide only [aop, abuiltin, aeval, aintBin, bin_int, aload_bump, SS, reduceIte, reduceCtorEq, f8]; exact rfl) rfl rfl ?_) | (refine arl_off rfl rfl ?_) | (refine aw_condT (by simp +decide only [aop, abuiltin, aeval, aintBin, bin_int, aload_bump, SS, reduceIte, reduceCtorEq, f8]; first | done | exact rfl) ?_) | (refine aw_condF (by simp +decide only [aop, abuiltin, aeval, aintBin, bin_int, aload_bump, SS, reduceIte, reduceCtorEq, f8]; first | done | exact rfl) ?_))
  refine arl_call rfl rfl rfl rfl rfl rfl ((rend_ok (hR.up (by repeat (first | exact Keeps.refl _ _ | (refine Keeps.bumpR ?_ _))))).wf (by repeat (first | assumption | (refine WF.bump ?_ _) | (refine WF.put ?_ (by simp only [n_bump, n_put, n_touch, n_kill] at *; omega) (by simp only [n_bump, n_put, n_touch, n_kill] at *; omega)))) |>.mono ?_)
  rintro r sc ⟨hwc, hnc, hEc, rfl⟩
  refine ⟨by first | rfl | assumption, ?_⟩
  replace hEc : Ext sz sc := Keeps.trans (by repeat (first | assumption | exact Keeps.refl _ _ | (refine Keeps.bumpR ?_ _) | (refine Keeps.put ?_ (by assumption) (by simp only [n_bump, n_put, n_touch, n_kill] at *; omega)))) hEc
  have hNc := hEc.n
  rw [if_neg (Nat.lt_irrefl _)]
  repeat (first | (refine aw_seq ?_) | (refine aw_reg0 (by simp only [SZ, Nat.reduceAdd]; exact rfl) ?_) | (refine aw_reg (by decide +kernel) (by simp only [SZ, Nat.reduceAdd]; exact rfl) ?_) | (refine aw_regS (by decide +kernel) (by simp only [SZ, Nat.reduceAdd]; exact rfl) ?_) | (refine arl_nil ?_) | (refine aw_skip ?_) | (refine aw_block ?_) | (refine aw_exit ?_) | (refine aw_ret ?_) | (refine arl_cons rfl rfl (by simp +decide only [aop, abuiltin, aeval, aintBin, bin_int, aload_bump, SS, reduceIte, reduceCtorEq]; exact rfl) (by first | rfl | assumption) rfl ?_) | (refine arl_none rfl rfl (by simp +decide only [aop, abuiltin, aeval, aintBin, bin_int, aload_bump, SS, reduceIte, reduceCtorEq]; exact rfl) rfl rfl ?_) | (refine arl_off rfl rfl ?_) | (refine aw_condT (by simp +decide only [aop, abuiltin, aeval, aintBin, bin_int, aload_bump, SS, reduceIte, reduceCtorEq]; first | done | exact rfl) ?_) | (refine aw_condF (by simp +decide only [aop, abuiltin, aeval, aintBin, bin_int, aload_bump, SS, reduceIte, reduceCtorEq]; first | done | exact rfl) ?_))
  exact ⟨.inr rfl, _, rfl, rfl⟩
theorem le_sum {α : Type} (f : α → Nat) (l : List α) (x : α) (h : x ∈ l) : f x ≤ (l.map f).sum := by
  induction l with
  | nil => cases h
  | cons y l ih =>
    rw [List.map_cons, List.sum_cons]
    rcases List.mem_cons.1 h with rfl | h
    · omega
    · have := ih h
      omega
theorem ops_part (os : List OpT) (o : OpT) (ho : o ∈ os) (p : List Int) (hp : p ∈ o.2.2.2) : p.length ≤ (os.map fun x : Int × Int × Int × List (List Int) => 1 + (1 + (1 + ((x.2.2.2.map fun xs : List Int => (xs.map fun _ => 1).sum + 1).sum + 1))) + 1).sum := by
  have h1 := le_sum (fun x : Int × Int × Int × List (List Int) => 1 + (1 + (1 + ((x.2.2.2.map fun xs : List Int => (xs.map fun _ => 1).sum + 1).sum + 1))) + 1) os o ho
  have h2 := le_sum (fun xs : List Int => (xs.map fun _ => 1).sum + 1) o.2.2.2 p hp
  simp only [sum_1] at h1 h2 ⊢
  omega
theorem CursorThere_small {st : St} (hw : WF st) {v : AV} {os : List (Int × Int × Int × List (List Int))} (h1 : RdL st (fun _ => True) 4 (fun c x => c.take 1 = [i64 x.1] ∧ (c.drop 1).take 1 = [i64 x.2.1] ∧ ((c.drop 1).drop 1).take 1 = [i64 x.2.2.1] ∧ ∃ v, ((c.drop 1).drop 1).drop 1 = [v] ∧ RdL st (fun _ => True) 1 (fun cs xs => ∃ v, cs = [v] ∧ RdL st (fun _ => True) 1 (fun cs n => cs = [.pl (.int .u8 n)]) v xs) v x.2.2.2) v os)
    (g1 : ∀ x ∈ os, (Lit.int .i64 x.1).wf = true ∧ (Lit.int .i64 x.2.1).wf = true ∧ (Lit.int .i64 x.2.2.1).wf = true ∧ ∀ y ∈ x.2.2.2, ∀ z ∈ y, (Lit.int .u8 z).wf = true)
    (hb : (os.map fun x : Int × Int × Int × List (List Int) => 1 + (1 + (1 + ((x.2.2.2.map fun xs : List Int => (xs.map fun _ => 1).sum + 1).sum + 1))) + 1).sum + 1 ≤ 1048576) :
    ACalls Try.prog 7 [v] st (fun r s => r = .pl (.bool true)) := by
  have h2 := ops_len os
  exact there_ok hw (ops_of h1) (by omega) (fun o ho p hp => ⟨by have := ops_part os o ho p hp; omega, fun x hx => wfu8 ((g1 o ho).2.2.2 p hp x hx)⟩) (fun o ho => wfi64 (g1 o ho).2.2.1)
end Go.Proofs.Ytfffpjogpefomaa.Ra
