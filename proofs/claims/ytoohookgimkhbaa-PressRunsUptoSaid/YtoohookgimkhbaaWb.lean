/- leatref06: length, best. -/
import Derived.Test.YtoohookgimkhbaaWa
namespace Go.Proofs.Ytoohookgimkhbaa.Ra
open Go Go.RowKit Pn
set_option linter.unusedVariables false
set_option linter.unusedSimpArgs false
set_option maxRecDepth 10000
theorem getD_in {b : List Int} {k : Nat} (h : k < b.length) : b.getD k 0 = b[k] := by simp [List.getD_eq_getElem?_getD, h]
set_option maxHeartbeats 1000000 in
theorem rlength_ok {st : St} (hw : WF st) {K : Nat → Prop} {v : AV} {b : List Int} (p i : Nat) (h : RdB st K v b) (hl : b.length ≤ 140737488355) (hpi : p ≤ i) (hi : i ≤ b.length) :
    ACalls Try.prog 39 [v, i64 p, i64 i] st (fun r s => Ext st s ∧ r = i64 (lcp b 131 p i)) := by
  replace h := h.lt hw
  have hvs := h.solid
  have hln := h.len
  refine acalls_of Try.func39 rfl (by kernel_rfl) (by simp [hvs]; exact ⟨rfl, rfl⟩) ?_
  repeat (first | (refine aw_seq ?_) | (refine aw_reg0 (by simp only [SZ, Nat.reduceAdd]; exact rfl) ?_) | (refine aw_reg (by decide +kernel) (by simp only [SZ, Nat.reduceAdd]; exact rfl) ?_) | (refine aw_regS (by decide +kernel) (by simp only [SZ, Nat.reduceAdd]; exact rfl) ?_) | (refine arl_nil ?_) | (refine aw_skip ?_) | (refine aw_block ?_) | (refine aw_exit ?_) | (refine aw_ret ?_) | (refine arl_cons rfl rfl (by simp +decide only [aop, abuiltin, aeval, aintBin, bin_int, aload_bump, SS, reduceIte, reduceCtorEq]; exact rfl) (by first | rfl | with_reducible assumption) rfl ?_) | (refine arl_none rfl rfl (by simp +decide only [aop, abuiltin, aeval, aintBin, bin_int, aload_bump, SS, reduceIte, reduceCtorEq]; exact rfl) rfl rfl ?_) | (refine arl_off rfl rfl ?_) | (refine aw_condT (by simp +decide only [aop, abuiltin, aeval, aintBin, bin_int, aload_bump, SS, reduceIte, reduceCtorEq]; first | done | exact rfl) ?_) | (refine aw_condF (by simp +decide only [aop, abuiltin, aeval, aintBin, bin_int, aload_bump, SS, reduceIte, reduceCtorEq]; first | done | exact rfl) ?_))
  obtain ⟨X, hX⟩ : ∃ X, lcp b 131 p i = X := ⟨_, rfl⟩
  rw [hX]
  refine aw_rounds_wf (fun m fr s => Ext st s ∧ ∃ (n : Nat), n ≤ 131 ∧ m = 131 - n ∧ i + n ≤ b.length ∧ fr 0 = v ∧ fr 1 = i64 p ∧ fr 2 = i64 i ∧ fr 7 = i64 n ∧ X = lcp b (131 - n) (p + n) (i + n) + n) ?_ 131 _ _ (by repeat (first | assumption | (refine WF.bump ?_ _))) ?_
  · rintro m fr s hws ⟨hE, n, hn, rfl, hin, f0, f1, f2, f7, hlc⟩
    have hEn := hE.n
    have hwl : IntKind.i64.wrap ((b.length : Int) - (i : Int)) = (b.length : Int) - i := wrap64_of (by omega) (by omega)
    by_cases h131 : n < 131
    · have d1 : decide ((n : Int) < 131) = true := decide_eq_true (by omega)
      obtain ⟨q, hq⟩ : ∃ q, 131 - n = q + 1 := ⟨131 - n - 1, by omega⟩
      rw [hq, lcp] at hlc
      by_cases hlt : i + n < b.length
      · have d2 : decide ((n : Int) < (b.length : Int) - (i : Int)) = true := decide_eq_true (by omega)
        have hwp : IntKind.i64.wrap ((p : Int) + (n : Int)) = ((p + n : Nat) : Int) := by rw [wrap64_of (by omega) (by omega)]; omega
        have hwi : IntKind.i64.wrap ((i : Int) + (n : Int)) = ((i + n : Nat) : Int) := by rw [wrap64_of (by omega) (by omega)]; omega
        obtain ⟨x, a1, a2, a3⟩ := (h.up hE).atN .i64 (p + n) (by omega)
        obtain ⟨y, b1, b2, b3⟩ := (h.up hE).atN .i64 (i + n) hlt
        have hwk := wrap_succ (k := n) (by omega)
        rw [getD_in hlt, getD_in (show p + n < b.length by omega)] at hlc
        by_cases he : b[p + n] = b[i + n]
        · have q1 : (b[p + n] == b[i + n]) = true := by simp [he]
          rw [if_pos ⟨hlt, he⟩] at hlc
          repeat (first | (refine aw_seq ?_) | (refine aw_reg0 (by simp only [SZ, Nat.reduceAdd]; exact rfl) ?_) | (refine aw_reg (by decide +kernel) (by simp only [SZ, Nat.reduceAdd]; exact rfl) ?_) | (refine aw_regS (by decide +kernel) (by simp only [SZ, Nat.reduceAdd]; exact rfl) ?_) | (refine arl_nil ?_) | (refine aw_skip ?_) | (refine aw_block ?_) | (refine aw_exit ?_) | (refine aw_ret ?_) | (refine arl_cons rfl rfl (by simp +decide only [aop, abuiltin, aeval, aintBin, bin_int, aload_bump, SS, reduceIte, reduceCtorEq, f7, d1, f0, hln, f2, hwl, d2, f1, hwp, a1, a3, hwi, b1, b3, q1, hwk]; exact rfl) (by first | rfl | with_reducible assumption) rfl ?_) | (refine arl_none rfl rfl (by simp +decide only [aop, abuiltin, aeval, aintBin, bin_int, aload_bump, SS, reduceIte, reduceCtorEq, f7, d1, f0, hln, f2, hwl, d2, f1, hwp, a1, a3, hwi, b1, b3, q1, hwk]; exact rfl) rfl rfl ?_) | (refine arl_off rfl rfl ?_) | (refine aw_condT (by simp +decide only [aop, abuiltin, aeval, aintBin, bin_int, aload_bump, SS, reduceIte, reduceCtorEq, f7, d1, f0, hln, f2, hwl, d2, f1, hwp, a1, a3, hwi, b1, b3, q1, hwk]; first | done | exact rfl) ?_) | (refine aw_condF (by simp +decide only [aop, abuiltin, aeval, aintBin, bin_int, aload_bump, SS, reduceIte, reduceCtorEq, f7, d1, f0, hln, f2, hwl, d2, f1, hwp, a1, a3, hwi, b1, b3, q1, hwk]; first | done | exact rfl) ?_))
          refine ⟨131 - (n + 1), by omega, hE.trans (by repeat (first | exact Keeps.refl _ _ | (refine Keeps.bumpR ?_ _))), n + 1, by omega, rfl, by omega, f0, f1, f2, rfl, ?_⟩
          rw [hlc, show 131 - (n + 1) = q by omega, show p + (n + 1) = p + n + 1 by omega, show i + (n + 1) = i + n + 1 by omega]
          omega
        · have q1 : (b[p + n] == b[i + n]) = false := by simp [he]
          rw [if_neg (fun h => he h.2)] at hlc
          repeat (first | (refine aw_seq ?_) | (refine aw_reg0 (by simp only [SZ, Nat.reduceAdd]; exact rfl) ?_) | (refine aw_reg (by decide +kernel) (by simp only [SZ, Nat.reduceAdd]; exact rfl) ?_) | (refine aw_regS (by decide +kernel) (by simp only [SZ, Nat.reduceAdd]; exact rfl) ?_) | (refine arl_nil ?_) | (refine aw_skip ?_) | (refine aw_block ?_) | (refine aw_exit ?_) | (refine aw_ret ?_) | (refine arl_cons rfl rfl (by simp +decide only [aop, abuiltin, aeval, aintBin, bin_int, aload_bump, SS, reduceIte, reduceCtorEq, f7, d1, f0, hln, f2, hwl, d2, f1, hwp, a1, a3, hwi, b1, b3, q1]; exact rfl) (by first | rfl | with_reducible assumption) rfl ?_) | (refine arl_none rfl rfl (by simp +decide only [aop, abuiltin, aeval, aintBin, bin_int, aload_bump, SS, reduceIte, reduceCtorEq, f7, d1, f0, hln, f2, hwl, d2, f1, hwp, a1, a3, hwi, b1, b3, q1]; exact rfl) rfl rfl ?_) | (refine arl_off rfl rfl ?_) | (refine aw_condT (by simp +decide only [aop, abuiltin, aeval, aintBin, bin_int, aload_bump, SS, reduceIte, reduceCtorEq, f7, d1, f0, hln, f2, hwl, d2, f1, hwp, a1, a3, hwi, b1, b3, q1]; first | done | exact rfl) ?_) | (refine aw_condF (by simp +decide only [aop, abuiltin, aeval, aintBin, bin_int, aload_bump, SS, reduceIte, reduceCtorEq, f7, d1, f0, hln, f2, hwl, d2, f1, hwp, a1, a3, hwi, b1, b3, q1]; first | done | exact rfl) ?_))
          refine ⟨.inr rfl, _, rfl, hE.trans (by repeat (first | exact Keeps.refl _ _ | (refine Keeps.bumpR ?_ _))), ?_⟩
          obtain rfl : X = n := by omega
          rfl
      · have d2 : decide ((n : Int) < (b.length : Int) - (i : Int)) = false := decide_eq_false (by omega)
        rw [if_neg (fun h => hlt h.1)] at hlc
        repeat (first | (refine aw_seq ?_) | (refine aw_reg0 (by simp only [SZ, Nat.reduceAdd]; exact rfl) ?_) | (refine aw_reg (by decide +kernel) (by simp only [SZ, Nat.reduceAdd]; exact rfl) ?_) | (refine aw_regS (by decide +kernel) (by simp only [SZ, Nat.reduceAdd]; exact rfl) ?_) | (refine arl_nil ?_) | (refine aw_skip ?_) | (refine aw_block ?_) | (refine aw_exit ?_) | (refine aw_ret ?_) | (refine arl_cons rfl rfl (by simp +decide only [aop, abuiltin, aeval, aintBin, bin_int, aload_bump, SS, reduceIte, reduceCtorEq, f7, d1, f0, hln, f2, hwl, d2]; exact rfl) (by first | rfl | with_reducible assumption) rfl ?_) | (refine arl_none rfl rfl (by simp +decide only [aop, abuiltin, aeval, aintBin, bin_int, aload_bump, SS, reduceIte, reduceCtorEq, f7, d1, f0, hln, f2, hwl, d2]; exact rfl) rfl rfl ?_) | (refine arl_off rfl rfl ?_) | (refine aw_condT (by simp +decide only [aop, abuiltin, aeval, aintBin, bin_int, aload_bump, SS, reduceIte, reduceCtorEq, f7, d1, f0, hln, f2, hwl, d2]; first | done | exact rfl) ?_) | (refine aw_condF (by simp +decide only [aop, abuiltin, aeval, aintBin, bin_int, aload_bump, SS, reduceIte, reduceCtorEq, f7, d1, f0, hln, f2, hwl, d2]; first | done | exact rfl) ?_))
        refine ⟨.inr rfl, _, rfl, hE.trans (by repeat (first | exact Keeps.refl _ _ | (refine Keeps.bumpR ?_ _))), ?_⟩
        obtain rfl : X = n := by omega
        rfl
    · have d1 : decide ((n : Int) < 131) = false := decide_eq_false (by omega)
      rw [show 131 - n = 0 by omega, lcp] at hlc
      repeat (first | (refine aw_seq ?_) | (refine aw_reg0 (by simp only [SZ, Nat.reduceAdd]; exact rfl) ?_) | (refine aw_reg (by decide +kernel) (by simp only [SZ, Nat.reduceAdd]; exact rfl) ?_) | (refine aw_regS (by decide +kernel) (by simp only [SZ, Nat.reduceAdd]; exact rfl) ?_) | (refine arl_nil ?_) | (refine aw_skip ?_) | (refine aw_block ?_) | (refine aw_exit ?_) | (refine aw_ret ?_) | (refine arl_cons rfl rfl (by simp +decide only [aop, abuiltin, aeval, aintBin, bin_int, aload_bump, SS, reduceIte, reduceCtorEq, f7, d1]; exact rfl) (by first | rfl | with_reducible assumption) rfl ?_) | (refine arl_none rfl rfl (by simp +decide only [aop, abuiltin, aeval, aintBin, bin_int, aload_bump, SS, reduceIte, reduceCtorEq, f7, d1]; exact rfl) rfl rfl ?_) | (refine arl_off rfl rfl ?_) | (refine aw_condT (by simp +decide only [aop, abuiltin, aeval, aintBin, bin_int, aload_bump, SS, reduceIte, reduceCtorEq, f7, d1]; first | done | exact rfl) ?_) | (refine aw_condF (by simp +decide only [aop, abuiltin, aeval, aintBin, bin_int, aload_bump, SS, reduceIte, reduceCtorEq, f7, d1]; first | done | exact rfl) ?_))
      refine ⟨.inr rfl, _, rfl, hE.trans (by repeat (first | exact Keeps.refl _ _ | (refine Keeps.bumpR ?_ _))), ?_⟩
      obtain rfl : X = n := by omega
      rfl
  · exact ⟨(by repeat (first | exact Keeps.refl _ _ | (refine Keeps.bumpR ?_ _))), 0, by omega, rfl, by omega, rfl, rfl, rfl, rfl, hX.symm⟩
set_option maxHeartbeats 1000000 in
theorem rbest_ok {st : St} (hw : WF st) {K : Nat → Prop} {v : AV} {b : List Int} (i : Nat) (depth : Int) (h : RdB st K v b) (hl : b.length ≤ 140737488355) (hi : i ≤ b.length) :
    ACalls Try.prog 26 [v, i64 i, i64 depth] st (fun r s => Ext st s ∧ r = .tup [i64 (bst b i i depth (0, 0)).1, i64 (bst b i i depth (0, 0)).2]) := by
  replace h := h.lt hw
  have hvs := h.solid
  have hwi : IntKind.i64.wrap ((i : Int) - 1) = (i : Int) - 1 := wrap64_of (by omega) (by omega)
  refine acalls_of Try.func26 rfl (by kernel_rfl) (by simp [hvs]; exact ⟨rfl, rfl⟩) ?_
  repeat (first | (refine aw_seq ?_) | (refine aw_reg0 (by simp only [SZ, Nat.reduceAdd]; exact rfl) ?_) | (refine aw_reg (by decide +kernel) (by simp only [SZ, Nat.reduceAdd]; exact rfl) ?_) | (refine aw_regS (by decide +kernel) (by simp only [SZ, Nat.reduceAdd]; exact rfl) ?_) | (refine arl_nil ?_) | (refine aw_skip ?_) | (refine aw_block ?_) | (refine aw_exit ?_) | (refine aw_ret ?_) | (refine arl_cons rfl rfl (by simp +decide only [aop, abuiltin, aeval, aintBin, bin_int, aload_bump, SS, reduceIte, reduceCtorEq, hwi]; exact rfl) (by first | rfl | with_reducible assumption) rfl ?_) | (refine arl_none rfl rfl (by simp +decide only [aop, abuiltin, aeval, aintBin, bin_int, aload_bump, SS, reduceIte, reduceCtorEq, hwi]; exact rfl) rfl rfl ?_) | (refine arl_off rfl rfl ?_) | (refine aw_condT (by simp +decide only [aop, abuiltin, aeval, aintBin, bin_int, aload_bump, SS, reduceIte, reduceCtorEq, hwi]; first | done | exact rfl) ?_) | (refine aw_condF (by simp +decide only [aop, abuiltin, aeval, aintBin, bin_int, aload_bump, SS, reduceIte, reduceCtorEq, hwi]; first | done | exact rfl) ?_))
  refine aw_rounds_wf (fun m fr s => Ext st s ∧ ∃ (q seen : Nat) (r : Nat × Nat), q ≤ i ∧ m = q ∧ seen ≤ i - q ∧ fr 0 = v ∧ fr 1 = i64 i ∧ fr 2 = i64 depth ∧ fr 11 = i64 ((q : Int) - 1) ∧ fr 8 = i64 r.1 ∧ fr 9 = i64 r.2 ∧ fr 10 = i64 seen ∧ bst b i i depth (0, 0) = bst b i q (depth - seen) r) ?_ i _ _ (by repeat (first | assumption | (refine WF.bump ?_ _))) ?_
  · rintro q fr sx hws ⟨hE, q', seen, r, hq, rfl, hse, f0, f1, f2, f11, f8, f9, f10, hb⟩
    have hEn := hE.n
    cases q with
    | zero =>
      have d1 : decide (((0 : Nat) : Int) - 1 ≥ 0) = false := decide_eq_false (by omega)
      rw [bst] at hb
      repeat (first | (refine aw_seq ?_) | (refine aw_reg0 (by simp only [SZ, Nat.reduceAdd]; exact rfl) ?_) | (refine aw_reg (by decide +kernel) (by simp only [SZ, Nat.reduceAdd]; exact rfl) ?_) | (refine aw_regS (by decide +kernel) (by simp only [SZ, Nat.reduceAdd]; exact rfl) ?_) | (refine arl_nil ?_) | (refine aw_skip ?_) | (refine aw_block ?_) | (refine aw_exit ?_) | (refine aw_ret ?_) | (refine arl_cons rfl rfl (by simp +decide only [aop, abuiltin, aeval, aintBin, bin_int, aload_bump, SS, reduceIte, reduceCtorEq, f11, d1, f8, f9]; exact rfl) (by first | rfl | with_reducible assumption) rfl ?_) | (refine arl_none rfl rfl (by simp +decide only [aop, abuiltin, aeval, aintBin, bin_int, aload_bump, SS, reduceIte, reduceCtorEq, f11, d1, f8, f9]; exact rfl) rfl rfl ?_) | (refine arl_off rfl rfl ?_) | (refine aw_condT (by simp +decide only [aop, abuiltin, aeval, aintBin, bin_int, aload_bump, SS, reduceIte, reduceCtorEq, f11, d1, f8, f9]; first | done | exact rfl) ?_) | (refine aw_condF (by simp +decide only [aop, abuiltin, aeval, aintBin, bin_int, aload_bump, SS, reduceIte, reduceCtorEq, f11, d1, f8, f9]; first | done | exact rfl) ?_))
      exact ⟨.inr rfl, _, rfl, hE.trans (by repeat (first | exact Keeps.refl _ _ | (refine Keeps.bumpR ?_ _))), by rw [hb]; rfl⟩
    | succ p =>
      rw [show (((p + 1 : Nat) : Int) - 1) = (p : Int) by omega] at f11
      have d1 : decide ((p : Int) ≥ 0) = true := decide_eq_true (by omega)
      have hwip : IntKind.i64.wrap ((i : Int) - (p : Int)) = ((i - p : Nat) : Int) := by rw [wrap64_of (by omega) (by omega)]; omega
      have hwp : IntKind.i64.wrap ((p : Int) - 1) = (p : Int) - 1 := wrap64_of (by omega) (by omega)
      have hwk := wrap_succ (k := seen) (by omega)
      rw [bst] at hb
      by_cases h1 : i ≤ p + 4096
      · have d2 : decide (((i - p : Nat) : Int) ≤ 4096) = true := decide_eq_true (by omega)
        by_cases h2 : (seen : Int) < depth
        · have d3 : decide ((seen : Int) < depth) = true := decide_eq_true h2
          rw [if_pos ⟨h1, by omega⟩] at hb
          repeat (first | (refine aw_seq ?_) | (refine aw_reg0 (by simp only [SZ, Nat.reduceAdd]; exact rfl) ?_) | (refine aw_reg (by decide +kernel) (by simp only [SZ, Nat.reduceAdd]; exact rfl) ?_) | (refine aw_regS (by decide +kernel) (by simp only [SZ, Nat.reduceAdd]; exact rfl) ?_) | (refine arl_nil ?_) | (refine aw_skip ?_) | (refine aw_block ?_) | (refine aw_exit ?_) | (refine aw_ret ?_) | (refine arl_cons rfl rfl (by simp +decide only [aop, abuiltin, aeval, aintBin, bin_int, aload_bump, SS, reduceIte, reduceCtorEq, f11, d1, f1, hwip, d2, f10, f2, d3, f0]; exact rfl) (by first | rfl | with_reducible assumption) rfl ?_) | (refine arl_none rfl rfl (by simp +decide only [aop, abuiltin, aeval, aintBin, bin_int, aload_bump, SS, reduceIte, reduceCtorEq, f11, d1, f1, hwip, d2, f10, f2, d3, f0]; exact rfl) rfl rfl ?_) | (refine arl_off rfl rfl ?_) | (refine aw_condT (by simp +decide only [aop, abuiltin, aeval, aintBin, bin_int, aload_bump, SS, reduceIte, reduceCtorEq, f11, d1, f1, hwip, d2, f10, f2, d3, f0]; first | done | exact rfl) ?_) | (refine aw_condF (by simp +decide only [aop, abuiltin, aeval, aintBin, bin_int, aload_bump, SS, reduceIte, reduceCtorEq, f11, d1, f1, hwip, d2, f10, f2, d3, f0]; first | done | exact rfl) ?_))
          refine arl_call rfl rfl rfl rfl rfl rfl ((rlength_ok (by repeat (first | assumption | (refine WF.bump ?_ _))) p i ((h.up hE).up (by repeat (first | exact Keeps.refl _ _ | (refine Keeps.bumpR ?_ _)))) hl (by omega) hi).wf (by repeat (first | assumption | (refine WF.bump ?_ _) | (refine WF.put ?_ (by simp only [n_bump, n_put, n_touch, n_kill] at *; omega) (by simp only [n_bump, n_put, n_touch, n_kill] at *; omega)))) |>.mono ?_)
          rintro y s1 ⟨hw1, hn1, hE1, rfl⟩
          refine ⟨by first | rfl | with_reducible assumption, ?_⟩
          replace hE1 : Ext sx s1 := Keeps.trans (by repeat (first | assumption | exact Keeps.refl _ _ | (refine Keeps.bumpR ?_ _) | (refine Keeps.put ?_ (by assumption) (by simp only [n_bump, n_put, n_touch, n_kill] at *; omega)))) hE1
          have hN1 := hE1.n
          have hle := lcp_le b 131 p i
          by_cases h4 : 4 ≤ lcp b 131 p i
          · have d4 : decide (((lcp b 131 p i : Nat) : Int) ≥ 4) = true := decide_eq_true (by omega)
            rw [if_pos h4] at hb
            by_cases h5 : r.2 < lcp b 131 p i
            · have d5 : decide (((lcp b 131 p i : Nat) : Int) > (r.2 : Int)) = true := decide_eq_true (by omega)
              rw [if_pos h5] at hb
              repeat (first | (refine aw_seq ?_) | (refine aw_reg0 (by simp only [SZ, Nat.reduceAdd]; exact rfl) ?_) | (refine aw_reg (by decide +kernel) (by simp only [SZ, Nat.reduceAdd]; exact rfl) ?_) | (refine aw_regS (by decide +kernel) (by simp only [SZ, Nat.reduceAdd]; exact rfl) ?_) | (refine arl_nil ?_) | (refine aw_skip ?_) | (refine aw_block ?_) | (refine aw_exit ?_) | (refine aw_ret ?_) | (refine arl_cons rfl rfl (by simp +decide only [aop, abuiltin, aeval, aintBin, bin_int, aload_bump, SS, reduceIte, reduceCtorEq, d4, f10, hwk, f9, d5, f1, f11, hwip, hwp]; exact rfl) (by first | rfl | with_reducible assumption) rfl ?_) | (refine arl_none rfl rfl (by simp +decide only [aop, abuiltin, aeval, aintBin, bin_int, aload_bump, SS, reduceIte, reduceCtorEq, d4, f10, hwk, f9, d5, f1, f11, hwip, hwp]; exact rfl) rfl rfl ?_) | (refine arl_off rfl rfl ?_) | (refine aw_condT (by simp +decide only [aop, abuiltin, aeval, aintBin, bin_int, aload_bump, SS, reduceIte, reduceCtorEq, d4, f10, hwk, f9, d5, f1, f11, hwip, hwp]; first | done | exact rfl) ?_) | (refine aw_condF (by simp +decide only [aop, abuiltin, aeval, aintBin, bin_int, aload_bump, SS, reduceIte, reduceCtorEq, d4, f10, hwk, f9, d5, f1, f11, hwip, hwp]; first | done | exact rfl) ?_))
              refine ⟨p, by omega, (hE.trans hE1).trans (by repeat (first | exact Keeps.refl _ _ | (refine Keeps.bumpR ?_ _))), p, seen + 1, (i - p, lcp b 131 p i), by omega, rfl, by omega, f0, f1, f2, rfl, rfl, rfl, rfl, ?_⟩
              rw [hb, show depth - ((seen + 1 : Nat) : Int) = depth - (seen : Int) - 1 by omega]
            · have d5 : decide (((lcp b 131 p i : Nat) : Int) > (r.2 : Int)) = false := decide_eq_false (by omega)
              rw [if_neg h5] at hb
              repeat (first | (refine aw_seq ?_) | (refine aw_reg0 (by simp only [SZ, Nat.reduceAdd]; exact rfl) ?_) | (refine aw_reg (by decide +kernel) (by simp only [SZ, Nat.reduceAdd]; exact rfl) ?_) | (refine aw_regS (by decide +kernel) (by simp only [SZ, Nat.reduceAdd]; exact rfl) ?_) | (refine arl_nil ?_) | (refine aw_skip ?_) | (refine aw_block ?_) | (refine aw_exit ?_) | (refine aw_ret ?_) | (refine arl_cons rfl rfl (by simp +decide only [aop, abuiltin, aeval, aintBin, bin_int, aload_bump, SS, reduceIte, reduceCtorEq, d4, f10, hwk, f9, d5, f11, hwp]; exact rfl) (by first | rfl | with_reducible assumption) rfl ?_) | (refine arl_none rfl rfl (by simp +decide only [aop, abuiltin, aeval, aintBin, bin_int, aload_bump, SS, reduceIte, reduceCtorEq, d4, f10, hwk, f9, d5, f11, hwp]; exact rfl) rfl rfl ?_) | (refine arl_off rfl rfl ?_) | (refine aw_condT (by simp +decide only [aop, abuiltin, aeval, aintBin, bin_int, aload_bump, SS, reduceIte, reduceCtorEq, d4, f10, hwk, f9, d5, f11, hwp]; first | done | exact rfl) ?_) | (refine aw_condF (by simp +decide only [aop, abuiltin, aeval, aintBin, bin_int, aload_bump, SS, reduceIte, reduceCtorEq, d4, f10, hwk, f9, d5, f11, hwp]; first | done | exact rfl) ?_))
              refine ⟨p, by omega, (hE.trans hE1).trans (by repeat (first | exact Keeps.refl _ _ | (refine Keeps.bumpR ?_ _))), p, seen + 1, r, by omega, rfl, by omega, f0, f1, f2, rfl, f8, f9, rfl, ?_⟩
              rw [hb, show depth - ((seen + 1 : Nat) : Int) = depth - (seen : Int) - 1 by omega]
          · have d4 : decide (((lcp b 131 p i : Nat) : Int) ≥ 4) = false := decide_eq_false (by omega)
            rw [if_neg h4] at hb
            repeat (first | (refine aw_seq ?_) | (refine aw_reg0 (by simp only [SZ, Nat.reduceAdd]; exact rfl) ?_) | (refine aw_reg (by decide +kernel) (by simp only [SZ, Nat.reduceAdd]; exact rfl) ?_) | (refine aw_regS (by decide +kernel) (by simp only [SZ, Nat.reduceAdd]; exact rfl) ?_) | (refine arl_nil ?_) | (refine aw_skip ?_) | (refine aw_block ?_) | (refine aw_exit ?_) | (refine aw_ret ?_) | (refine arl_cons rfl rfl (by simp +decide only [aop, abuiltin, aeval, aintBin, bin_int, aload_bump, SS, reduceIte, reduceCtorEq, d4, f11, hwp]; exact rfl) (by first | rfl | with_reducible assumption) rfl ?_) | (refine arl_none rfl rfl (by simp +decide only [aop, abuiltin, aeval, aintBin, bin_int, aload_bump, SS, reduceIte, reduceCtorEq, d4, f11, hwp]; exact rfl) rfl rfl ?_) | (refine arl_off rfl rfl ?_) | (refine aw_condT (by simp +decide only [aop, abuiltin, aeval, aintBin, bin_int, aload_bump, SS, reduceIte, reduceCtorEq, d4, f11, hwp]; first | done | exact rfl) ?_) | (refine aw_condF (by simp +decide only [aop, abuiltin, aeval, aintBin, bin_int, aload_bump, SS, reduceIte, reduceCtorEq, d4, f11, hwp]; first | done | exact rfl) ?_))
            exact ⟨p, by omega, (hE.trans hE1).trans (by repeat (first | exact Keeps.refl _ _ | (refine Keeps.bumpR ?_ _))), p, seen, r, by omega, rfl, by omega, f0, f1, f2, rfl, f8, f9, f10, hb⟩
        · have d3 : decide ((seen : Int) < depth) = false := decide_eq_false h2
          rw [if_neg (by omega)] at hb
          repeat (first | (refine aw_seq ?_) | (refine aw_reg0 (by simp only [SZ, Nat.reduceAdd]; exact rfl) ?_) | (refine aw_reg (by decide +kernel) (by simp only [SZ, Nat.reduceAdd]; exact rfl) ?_) | (refine aw_regS (by decide +kernel) (by simp only [SZ, Nat.reduceAdd]; exact rfl) ?_) | (refine arl_nil ?_) | (refine aw_skip ?_) | (refine aw_block ?_) | (refine aw_exit ?_) | (refine aw_ret ?_) | (refine arl_cons rfl rfl (by simp +decide only [aop, abuiltin, aeval, aintBin, bin_int, aload_bump, SS, reduceIte, reduceCtorEq, f11, d1, f1, hwip, d2, f10, f2, d3, f8, f9]; exact rfl) (by first | rfl | with_reducible assumption) rfl ?_) | (refine arl_none rfl rfl (by simp +decide only [aop, abuiltin, aeval, aintBin, bin_int, aload_bump, SS, reduceIte, reduceCtorEq, f11, d1, f1, hwip, d2, f10, f2, d3, f8, f9]; exact rfl) rfl rfl ?_) | (refine arl_off rfl rfl ?_) | (refine aw_condT (by simp +decide only [aop, abuiltin, aeval, aintBin, bin_int, aload_bump, SS, reduceIte, reduceCtorEq, f11, d1, f1, hwip, d2, f10, f2, d3, f8, f9]; first | done | exact rfl) ?_) | (refine aw_condF (by simp +decide only [aop, abuiltin, aeval, aintBin, bin_int, aload_bump, SS, reduceIte, reduceCtorEq, f11, d1, f1, hwip, d2, f10, f2, d3, f8, f9]; first | done | exact rfl) ?_))
          exact ⟨.inr rfl, _, rfl, hE.trans (by repeat (first | exact Keeps.refl _ _ | (refine Keeps.bumpR ?_ _))), by rw [hb]; rfl⟩
      · have d2 : decide (((i - p : Nat) : Int) ≤ 4096) = false := decide_eq_false (by omega)
        rw [if_neg (by omega)] at hb
        repeat (first | (refine aw_seq ?_) | (refine aw_reg0 (by simp only [SZ, Nat.reduceAdd]; exact rfl) ?_) | (refine aw_reg (by decide +kernel) (by simp only [SZ, Nat.reduceAdd]; exact rfl) ?_) | (refine aw_regS (by decide +kernel) (by simp only [SZ, Nat.reduceAdd]; exact rfl) ?_) | (refine arl_nil ?_) | (refine aw_skip ?_) | (refine aw_block ?_) | (refine aw_exit ?_) | (refine aw_ret ?_) | (refine arl_cons rfl rfl (by simp +decide only [aop, abuiltin, aeval, aintBin, bin_int, aload_bump, SS, reduceIte, reduceCtorEq, f11, d1, f1, hwip, d2, f8, f9]; exact rfl) (by first | rfl | with_reducible assumption) rfl ?_) | (refine arl_none rfl rfl (by simp +decide only [aop, abuiltin, aeval, aintBin, bin_int, aload_bump, SS, reduceIte, reduceCtorEq, f11, d1, f1, hwip, d2, f8, f9]; exact rfl) rfl rfl ?_) | (refine arl_off rfl rfl ?_) | (refine aw_condT (by simp +decide only [aop, abuiltin, aeval, aintBin, bin_int, aload_bump, SS, reduceIte, reduceCtorEq, f11, d1, f1, hwip, d2, f8, f9]; first | done | exact rfl) ?_) | (refine aw_condF (by simp +decide only [aop, abuiltin, aeval, aintBin, bin_int, aload_bump, SS, reduceIte, reduceCtorEq, f11, d1, f1, hwip, d2, f8, f9]; first | done | exact rfl) ?_))
        exact ⟨.inr rfl, _, rfl, hE.trans (by repeat (first | exact Keeps.refl _ _ | (refine Keeps.bumpR ?_ _))), by rw [hb]; rfl⟩
  · exact ⟨(by repeat (first | exact Keeps.refl _ _ | (refine Keeps.bumpR ?_ _))), i, 0, (0, 0), by omega, rfl, by omega, rfl, rfl, rfl, rfl, rfl, rfl, rfl, by rw [show depth - ((0 : Nat) : Int) = depth by omega]⟩
end Go.Proofs.Ytoohookgimkhbaa.Ra
