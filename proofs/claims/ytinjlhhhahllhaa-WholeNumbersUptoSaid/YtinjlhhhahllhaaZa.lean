/- leattop.WholeNumbers: rows of numbers. -/
import Derived.Test.YtinjlhhhahllhaaVd
import Derived.Test.YtinjlhhhahllhaaSw
import Derived.Test.YtinjlhhhahllhaaSm
namespace Go.Proofs.Ytinjlhhhahllhaa.Ra
open Go Go.RowKit Vn
set_option linter.unusedVariables false
set_option linter.unusedSimpArgs false
set_option maxRecDepth 10000
theorem vSize_ok {st : St} (hw : WF st) {v : Int} (hv : fit v) : ACalls Try.prog 7 [i64 v] st (fun r s => Ext st s ∧ r = i64 (vput v).length) := by
  have hzr := zig_range hv.1 hv.2
  have hvl := vput_len hv
  have hvp : vput v = dig (zig v).toNat := rfl
  refine acalls_of Try.func7 rfl (by kernel_rfl) rfl ?_
  repeat (first | (refine aw_seq ?_) | (refine aw_reg0 (by simp only [SZ, Nat.reduceAdd]; exact rfl) ?_) | (refine aw_reg (by decide +kernel) (by simp only [SZ, Nat.reduceAdd]; exact rfl) ?_) | (refine aw_regS (by decide +kernel) (by simp only [SZ, Nat.reduceAdd]; exact rfl) ?_) | (refine arl_nil ?_) | (refine aw_skip ?_) | (refine aw_block ?_) | (refine aw_exit ?_) | (refine aw_ret ?_) | (refine arl_cons rfl rfl (by simp +decide only [aop, abuiltin, aeval, aintBin, bin_int, aload_bump, SS, reduceIte, reduceCtorEq]; exact rfl) (by first | rfl | with_reducible assumption) rfl ?_) | (refine arl_none rfl rfl (by simp +decide only [aop, abuiltin, aeval, aintBin, bin_int, aload_bump, SS, reduceIte, reduceCtorEq]; exact rfl) rfl rfl ?_) | (refine arl_off rfl rfl ?_) | (refine aw_condT (by simp +decide only [aop, abuiltin, aeval, aintBin, bin_int, aload_bump, SS, reduceIte, reduceCtorEq]; first | done | exact rfl) ?_) | (refine aw_condF (by simp +decide only [aop, abuiltin, aeval, aintBin, bin_int, aload_bump, SS, reduceIte, reduceCtorEq]; first | done | exact rfl) ?_))
  refine arl_call rfl rfl rfl rfl rfl rfl ((vZig_ok (by repeat (first | assumption | (refine WF.bump ?_ _))) hv).wf (by repeat (first | assumption | (refine WF.bump ?_ _) | (refine WF.put ?_ (by simp only [n_bump, n_put, n_touch, n_kill] at *; omega) (by simp only [n_bump, n_put, n_touch, n_kill] at *; omega)))) |>.mono ?_)
  rintro r s1 ⟨hw1, hn1, hE1, rfl⟩
  refine ⟨by first | rfl | with_reducible assumption, ?_⟩
  replace hE1 : Ext st s1 := Keeps.trans (by repeat (first | assumption | exact Keeps.refl _ _ | (refine Keeps.bumpR ?_ _) | (refine Keeps.put ?_ (by assumption) (by simp only [n_bump, n_put, n_touch, n_kill] at *; omega)))) hE1
  have hN1 := hE1.n
  obtain ⟨u0, hu0⟩ : ∃ u : Nat, zig v = (u : Int) := ⟨(zig v).toNat, by omega⟩
  rw [hu0, Int.toNat_natCast] at hvp
  rw [hu0] at hzr ⊢
  repeat (first | (refine aw_seq ?_) | (refine aw_reg0 (by simp only [SZ, Nat.reduceAdd]; exact rfl) ?_) | (refine aw_reg (by decide +kernel) (by simp only [SZ, Nat.reduceAdd]; exact rfl) ?_) | (refine aw_regS (by decide +kernel) (by simp only [SZ, Nat.reduceAdd]; exact rfl) ?_) | (refine arl_nil ?_) | (refine aw_skip ?_) | (refine aw_block ?_) | (refine aw_exit ?_) | (refine aw_ret ?_) | (refine arl_cons rfl rfl (by simp +decide only [aop, abuiltin, aeval, aintBin, bin_int, aload_bump, SS, reduceIte, reduceCtorEq]; exact rfl) (by first | rfl | with_reducible assumption) rfl ?_) | (refine arl_none rfl rfl (by simp +decide only [aop, abuiltin, aeval, aintBin, bin_int, aload_bump, SS, reduceIte, reduceCtorEq]; exact rfl) rfl rfl ?_) | (refine arl_off rfl rfl ?_) | (refine aw_condT (by simp +decide only [aop, abuiltin, aeval, aintBin, bin_int, aload_bump, SS, reduceIte, reduceCtorEq]; first | done | exact rfl) ?_) | (refine aw_condF (by simp +decide only [aop, abuiltin, aeval, aintBin, bin_int, aload_bump, SS, reduceIte, reduceCtorEq]; first | done | exact rfl) ?_))
  refine aw_rounds_wf (fun m fr s => Ext st s ∧ ∃ (u n : Nat), m = u ∧ u < 18446744073709551616 ∧ n + (dig u).length = (vput v).length + 1 ∧ fr 3 = i64 n ∧ fr 4 = u64 u) ?_ u0 _ _ (by repeat (first | assumption | (refine WF.bump ?_ _))) ?_
  · rintro m fr s hws ⟨hE, u, n, rfl, hu, hn, f3, f4⟩
    by_cases h128 : 128 ≤ m
    · have hd2 : decide ((m : Int) ≥ 128) = true := decide_eq_true (by omega)
      have e2 : (m : Int).fdiv (2 ^ min (7 : Int).toNat IntKind.u64.bits) = ((m / 128 : Nat) : Int) := by rw [show (2 : Int) ^ min (7 : Int).toNat IntKind.u64.bits = 128 from rfl, Int.fdiv_eq_ediv_of_nonneg _ (by decide)]; omega
      rw [dig_big (by omega), List.length_cons] at hn
      have hwn := wrap_succ (k := n) (by omega)
      repeat (first | (refine aw_seq ?_) | (refine aw_reg0 (by simp only [SZ, Nat.reduceAdd]; exact rfl) ?_) | (refine aw_reg (by decide +kernel) (by simp only [SZ, Nat.reduceAdd]; exact rfl) ?_) | (refine aw_regS (by decide +kernel) (by simp only [SZ, Nat.reduceAdd]; exact rfl) ?_) | (refine arl_nil ?_) | (refine aw_skip ?_) | (refine aw_block ?_) | (refine aw_exit ?_) | (refine aw_ret ?_) | (refine arl_cons rfl rfl (by simp +decide only [aop, abuiltin, aeval, aintBin, bin_int, aload_bump, SS, reduceIte, reduceCtorEq, f4, hd2, f3, hwn, e2]; exact rfl) (by first | rfl | with_reducible assumption) rfl ?_) | (refine arl_none rfl rfl (by simp +decide only [aop, abuiltin, aeval, aintBin, bin_int, aload_bump, SS, reduceIte, reduceCtorEq, f4, hd2, f3, hwn, e2]; exact rfl) rfl rfl ?_) | (refine arl_off rfl rfl ?_) | (refine aw_condT (by simp +decide only [aop, abuiltin, aeval, aintBin, bin_int, aload_bump, SS, reduceIte, reduceCtorEq, f4, hd2, f3, hwn, e2]; first | done | exact rfl) ?_) | (refine aw_condF (by simp +decide only [aop, abuiltin, aeval, aintBin, bin_int, aload_bump, SS, reduceIte, reduceCtorEq, f4, hd2, f3, hwn, e2]; first | done | exact rfl) ?_))
      exact ⟨m / 128, by omega, hE.trans (by repeat (first | exact Keeps.refl _ _ | (refine Keeps.bumpR ?_ _))), m / 128, n + 1, rfl, by omega, by omega, rfl, rfl⟩
    · have hd2 : decide ((m : Int) ≥ 128) = false := decide_eq_false (by omega)
      rw [dig_small (by omega)] at hn
      obtain rfl : n = (vput v).length := by simp only [List.length_singleton] at hn; omega
      repeat (first | (refine aw_seq ?_) | (refine aw_reg0 (by simp only [SZ, Nat.reduceAdd]; exact rfl) ?_) | (refine aw_reg (by decide +kernel) (by simp only [SZ, Nat.reduceAdd]; exact rfl) ?_) | (refine aw_regS (by decide +kernel) (by simp only [SZ, Nat.reduceAdd]; exact rfl) ?_) | (refine arl_nil ?_) | (refine aw_skip ?_) | (refine aw_block ?_) | (refine aw_exit ?_) | (refine aw_ret ?_) | (refine arl_cons rfl rfl (by simp +decide only [aop, abuiltin, aeval, aintBin, bin_int, aload_bump, SS, reduceIte, reduceCtorEq, f4, hd2, f3]; exact rfl) (by first | rfl | with_reducible assumption) rfl ?_) | (refine arl_none rfl rfl (by simp +decide only [aop, abuiltin, aeval, aintBin, bin_int, aload_bump, SS, reduceIte, reduceCtorEq, f4, hd2, f3]; exact rfl) rfl rfl ?_) | (refine arl_off rfl rfl ?_) | (refine aw_condT (by simp +decide only [aop, abuiltin, aeval, aintBin, bin_int, aload_bump, SS, reduceIte, reduceCtorEq, f4, hd2, f3]; first | done | exact rfl) ?_) | (refine aw_condF (by simp +decide only [aop, abuiltin, aeval, aintBin, bin_int, aload_bump, SS, reduceIte, reduceCtorEq, f4, hd2, f3]; first | done | exact rfl) ?_))
      exact ⟨.inr rfl, _, rfl, hE.trans (by repeat (first | exact Keeps.refl _ _ | (refine Keeps.bumpR ?_ _))), rfl⟩
  · exact ⟨hE1.trans (by repeat (first | exact Keeps.refl _ _ | (refine Keeps.bumpR ?_ _))), u0, 1, rfl, by omega, by rw [hvp]; omega, rfl, rfl⟩
theorem getS_vputA {v : Int} (hv : fit v) : getS 10 1 (vput v) 0 = (zig v, ((vput v).length : Int), 0) := by
  have hzr := zig_range hv.1 hv.2
  have h1 := scan_dig 10 1 (by decide) [] 9 (zig v).toNat 0 0 (by decide) (by have : (128 : Nat) ^ 9 = 9223372036854775808 := by decide
                                                                              omega) (.inr rfl)
  unfold getS vput
  rw [if_neg (by omega)]
  simp only [Int.toNat_zero, List.drop_zero]
  rw [List.append_nil] at h1
  rw [show ((1 : Nat) : Int) = 1 from rfl] at h1
  rw [h1]
  unfold answer
  rw [if_pos rfl]
  simp
  omega
def nrow (v : Int) : List Int := bes (vput v).length 2 ++ vput v
def rowsN (vs : List Int) : List Int := bes 5 2 ++ (vs.map nrow).flatten
theorem rowsN_succ (vs : List Int) (k : Nat) (h : k < vs.length) : rowsN (vs.take (k + 1)) = rowsN (vs.take k) ++ bes (vput vs[k]).length 2 ++ vput vs[k] := by
  unfold rowsN
  rw [List.take_succ_eq_append_getElem h, List.map_append, List.flatten_append]
  simp [nrow, List.append_assoc]
theorem rowsN_drop (vs : List Int) (k : Nat) (h : k < vs.length) : ∃ r, rowsN vs = rowsN (vs.take k) ++ (bes (vput vs[k]).length 2 ++ (vput vs[k] ++ r)) := by
  refine ⟨((vs.drop (k + 1)).map nrow).flatten, ?_⟩
  unfold rowsN
  have e : vs = vs.take k ++ vs[k] :: vs.drop (k + 1) := by rw [← List.drop_eq_getElem_cons h, List.take_append_drop]
  have hm := congrArg (List.map nrow) e
  rw [List.map_append, List.map_cons] at hm
  rw [hm]
  simp only [List.flatten_append, List.flatten_cons, nrow, List.append_assoc]
theorem rowsN_by (vs : List Int) (h : ∀ v ∈ vs, fit v) : ∀ x ∈ rowsN vs, 0 ≤ x ∧ x < 256 := by
  intro x hx
  rcases List.mem_append.1 hx with hx | hx
  · exact bes_by _ _ x hx
  · obtain ⟨l, hl, hx⟩ := List.mem_flatten.1 hx
    obtain ⟨v, hv, rfl⟩ := List.mem_map.1 hl
    rcases List.mem_append.1 hx with hx | hx
    · exact bes_by _ _ x hx
    · have := vput_byts (h v hv) x hx; omega
theorem val_bes2 (n : Nat) (h : n ≤ 10) : val (bes (n : Int) 2) = n := by rw [val_bes 2 n (by omega)]; omega
theorem bes_natW (n k : Nat) (h : n < 18446744073709551616) : bes (IntKind.u64.wrap (n : Int)) k = bes n k := by rw [wrU64]; congr 1; omega
theorem vput64m : vput (-64) = [127] := by
  unfold vput
  rw [show (zig (-64)).toNat = 127 from by decide, dig_small (by decide)]
  rfl
theorem vput64p : (vput 64).length = 2 := by
  unfold vput
  rw [show (zig 64).toNat = 128 from by decide, dig_big (by decide), dig_small (by decide)]
  rfl
theorem wNil (p : AV) (h : ∃ i off, p = .ptr i off) (t : TypeId) (ht : isPtrD (Try.prog.underlying t) = true) : abin Try.prog .eql t p (.pl (.pointer none)) = some (.bool false) := by
  obtain ⟨i, off, rfl⟩ := h
  simp [abin, ht, aeqOp]
theorem BxO.isPtr {st : St} {K : Nat → Prop} {T : TypeId} {p : AV} {ys : List Int} {n : Int} (h : BxO st K T p ys n) : ∃ i off, p = .ptr i off := by
  obtain ⟨i, g, c, rfl, h2, h3, h4⟩ := h
  exact ⟨i, 0, rfl⟩
abbrev BTb : TypeId := 23
theorem litJ1 {st : St} {K : Nat → Prop} {x : AV} {ys : List Int} (hl : RdB st K x ys) (id : Nat) : abuildSlice Try.prog 53 id 1 [(0, x)] = some (.sl id 0 1 1, ⟨[x], BTb, true, id⟩) := lits_one TB id [x] (by simp [hl.solid, hl.cell.1]) (by simp)
theorem litJ2 {st : St} {K K' : Nat → Prop} {x y : AV} {xs ys : List Int} (hx : RdB st K x xs) (hy : RdB st K' y ys) (id : Nat) : abuildSlice Try.prog 53 id 2 [(0, x), (1, y)] = some (.sl id 0 2 1, ⟨[x, y], BTb, true, id⟩) := lits_one TB id [x, y] (by simp [hx.solid, hx.cell.1, hy.solid, hy.cell.1]) (by simp)
set_option maxHeartbeats 8000000 in
theorem numbers_ok {st : St} (hw : WF st) {v tv : AV} {vs tail : List Int} (h : RdE numK st (fun _ => True) v vs) (ht : RdB st (fun _ => True) tv tail) (hl : vs.length + tail.length ≤ 1048576) (hv : ∀ x ∈ vs, fit x) (hby : ∀ x ∈ tail, 0 ≤ x ∧ x < 256) :
    ACalls Try.prog 3 [v, tv] st (fun r s => r = .pl (.bool true)) := by
  replace h := RdE.lt hw h
  replace ht := ht.lt hw
  have hvs := h.solid
  have hts := ht.solid
  have hln := RdE.len h TI
  have hlt' := ht.len
  have hcv : ∀ (st : St) (id : Nat) (x : Int), aconvert Try.prog st id 3 28 (.pl (.int .i64 x)) = some (.pl (.int .i16 (IntKind.i16.wrap x)), st) := fun st id x => conv_int Try.underlying3 Try.underlying28 st id .i64 x
  have hcv2 : ∀ (st : St) (id : Nat) (x : Int), aconvert Try.prog st id 28 3 (.pl (.int .i16 x)) = some (.pl (.int .i64 (IntKind.i64.wrap x)), st) := fun st id x => conv_int Try.underlying28 Try.underlying3 st id .i16 x
  refine acalls_of Try.func3 rfl (by kernel_rfl) (by simp [hvs, hts]) ?_
  repeat (first | (refine aw_seq ?_) | (refine aw_reg0 (by simp only [SZ, Nat.reduceAdd]; exact rfl) ?_) | (refine aw_reg (by decide +kernel) (by simp only [SZ, Nat.reduceAdd]; exact rfl) ?_) | (refine aw_regS (by decide +kernel) (by simp only [SZ, Nat.reduceAdd]; exact rfl) ?_) | (refine arl_nil ?_) | (refine aw_skip ?_) | (refine aw_block ?_) | (refine aw_exit ?_) | (refine aw_ret ?_) | (refine arl_cons rfl rfl (by simp +decide only [aop, abuiltin, aeval, aintBin, bin_int, aload_bump, SS, reduceIte, reduceCtorEq]; exact rfl) (by first | rfl | with_reducible assumption) rfl ?_) | (refine arl_none rfl rfl (by simp +decide only [aop, abuiltin, aeval, aintBin, bin_int, aload_bump, SS, reduceIte, reduceCtorEq]; exact rfl) rfl rfl ?_) | (refine arl_off rfl rfl ?_) | (refine aw_condT (by simp +decide only [aop, abuiltin, aeval, aintBin, bin_int, aload_bump, SS, reduceIte, reduceCtorEq]; first | done | exact rfl) ?_) | (refine aw_condF (by simp +decide only [aop, abuiltin, aeval, aintBin, bin_int, aload_bump, SS, reduceIte, reduceCtorEq]; first | done | exact rfl) ?_))
  refine arl_call rfl rfl rfl rfl rfl rfl ((newWriter_ok (by repeat (first | assumption | (refine WF.bump ?_ _))) 1048576).wf (by repeat (first | assumption | (refine WF.bump ?_ _) | (refine WF.put ?_ (by simp only [n_bump, n_put, n_touch, n_kill] at *; omega) (by simp only [n_bump, n_put, n_touch, n_kill] at *; omega)))) |>.mono ?_)
  rintro p s1 ⟨hw1, hn1, hE1, hps, hO1⟩
  refine ⟨by first | rfl | with_reducible assumption, ?_⟩
  replace hE1 : Ext st s1 := Keeps.trans (by repeat (first | assumption | exact Keeps.refl _ _ | (refine Keeps.bumpR ?_ _) | (refine Keeps.put ?_ (by assumption) (by simp only [n_bump, n_put, n_touch, n_kill] at *; omega)))) hE1
  have hN1 := hE1.n
  rw [show clampW 1048576 = 1048576 from by decide] at hO1
  replace hO1 := (hO1.lt hw1).mono (K' := fun g => st.n ≤ g ∧ g < s1.n) (fun g hg => ⟨by have := hg.1; simp only [n_bump] at this; omega, hg.2⟩)
  have hpn := wNil p hO1.isPtr 24 (by kernel_rfl)
  repeat (first | (refine aw_seq ?_) | (refine aw_reg0 (by simp only [SZ, Nat.reduceAdd]; exact rfl) ?_) | (refine aw_reg (by decide +kernel) (by simp only [SZ, Nat.reduceAdd]; exact rfl) ?_) | (refine aw_regS (by decide +kernel) (by simp only [SZ, Nat.reduceAdd]; exact rfl) ?_) | (refine arl_nil ?_) | (refine aw_skip ?_) | (refine aw_block ?_) | (refine aw_exit ?_) | (refine aw_ret ?_) | (refine arl_cons rfl rfl (by simp +decide only [aop, abuiltin, aeval, aintBin, bin_int, aload_bump, SS, reduceIte, reduceCtorEq, hpn]; exact rfl) (by first | rfl | with_reducible assumption) rfl ?_) | (refine arl_none rfl rfl (by simp +decide only [aop, abuiltin, aeval, aintBin, bin_int, aload_bump, SS, reduceIte, reduceCtorEq, hpn]; exact rfl) rfl rfl ?_) | (refine arl_off rfl rfl ?_) | (refine aw_condT (by simp +decide only [aop, abuiltin, aeval, aintBin, bin_int, aload_bump, SS, reduceIte, reduceCtorEq, hpn]; first | done | exact rfl) ?_) | (refine aw_condF (by simp +decide only [aop, abuiltin, aeval, aintBin, bin_int, aload_bump, SS, reduceIte, reduceCtorEq, hpn]; first | done | exact rfl) ?_))
  refine arl_call rfl rfl rfl rfl rfl rfl ((wI16_ok (by repeat (first | assumption | (refine WF.bump ?_ _))) (hO1.up (by repeat (first | exact Keeps.refl _ _ | (refine Keeps.bumpR ?_ _)))) 5 (by omega) (by simp)).wf (by repeat (first | assumption | (refine WF.bump ?_ _) | (refine WF.put ?_ (by simp only [n_bump, n_put, n_touch, n_kill] at *; omega) (by simp only [n_bump, n_put, n_touch, n_kill] at *; omega)))) |>.mono ?_)
  rintro q s2 ⟨hw2, hn2, hE2, rfl, hO2⟩
  refine ⟨rfl, ?_⟩
  replace hE2 : Keeps (fun g => st.n ≤ g ∧ g < s1.n) s1 s2 := Keeps.trans (Keeps.mono (G := fun _ => False) (show Ext s1 _ from (by repeat (first | exact Keeps.refl _ _ | (refine Keeps.bumpR ?_ _)))) (fun _ h => h.elim)) hE2
  have hN2 := hE2.n
  rw [if_pos (by simp only [List.length_nil]; omega), List.nil_append, show bes (IntKind.u64.wrap 5) 2 = rowsN (vs.take 0) from by rw [show (5 : Int) = ((5 : Nat) : Int) from rfl, bes_natW 5 2 (by decide)]; simp [rowsN]] at hO2
  replace hO2 := (hO2.lt hw2).mono (K' := fun g => st.n ≤ g ∧ g < s2.n) (fun g hg => ⟨by rcases hg.1 with h | h; exact h.1; simp only [n_bump] at h; omega, hg.2⟩)
  rw [if_pos (by simp only [List.length_nil]; omega)]
  have hT2 : Ext st s2 := Keeps.call hE1 hE2 hw (fun g hg => .inr hg.1)
  repeat (first | (refine aw_seq ?_) | (refine aw_reg0 (by simp only [SZ, Nat.reduceAdd]; exact rfl) ?_) | (refine aw_reg (by decide +kernel) (by simp only [SZ, Nat.reduceAdd]; exact rfl) ?_) | (refine aw_regS (by decide +kernel) (by simp only [SZ, Nat.reduceAdd]; exact rfl) ?_) | (refine arl_nil ?_) | (refine aw_skip ?_) | (refine aw_block ?_) | (refine aw_exit ?_) | (refine aw_ret ?_) | (refine arl_cons rfl rfl (by simp +decide only [aop, abuiltin, aeval, aintBin, bin_int, aload_bump, SS, reduceIte, reduceCtorEq]; exact rfl) (by first | rfl | with_reducible assumption) rfl ?_) | (refine arl_none rfl rfl (by simp +decide only [aop, abuiltin, aeval, aintBin, bin_int, aload_bump, SS, reduceIte, reduceCtorEq]; exact rfl) rfl rfl ?_) | (refine arl_off rfl rfl ?_) | (refine aw_condT (by simp +decide only [aop, abuiltin, aeval, aintBin, bin_int, aload_bump, SS, reduceIte, reduceCtorEq]; first | done | exact rfl) ?_) | (refine aw_condF (by simp +decide only [aop, abuiltin, aeval, aintBin, bin_int, aload_bump, SS, reduceIte, reduceCtorEq]; first | done | exact rfl) ?_))
  refine arl_call rfl rfl rfl rfl rfl rfl ((vPut_ok (by repeat (first | assumption | (refine WF.bump ?_ _))) (v := -64) (by unfold fit; omega)).wf (by repeat (first | assumption | (refine WF.bump ?_ _) | (refine WF.put ?_ (by simp only [n_bump, n_put, n_touch, n_kill] at *; omega) (by simp only [n_bump, n_put, n_touch, n_kill] at *; omega)))) |>.mono ?_)
  rintro pv s3 ⟨hw3, hn3, hE3, hpvs, hP3⟩
  refine ⟨by first | rfl | with_reducible assumption, ?_⟩
  replace hE3 : Ext s2 s3 := Keeps.trans (by repeat (first | assumption | exact Keeps.refl _ _ | (refine Keeps.bumpR ?_ _) | (refine Keeps.put ?_ (by assumption) (by simp only [n_bump, n_put, n_touch, n_kill] at *; omega)))) hE3
  have hN3 := hE3.n
  rw [vput64m] at hP3
  have hl3 := hP3.rd.len
  repeat (first | (refine aw_seq ?_) | (refine aw_reg0 (by simp only [SZ, Nat.reduceAdd]; exact rfl) ?_) | (refine aw_reg (by decide +kernel) (by simp only [SZ, Nat.reduceAdd]; exact rfl) ?_) | (refine aw_regS (by decide +kernel) (by simp only [SZ, Nat.reduceAdd]; exact rfl) ?_) | (refine arl_nil ?_) | (refine aw_skip ?_) | (refine aw_block ?_) | (refine aw_exit ?_) | (refine aw_ret ?_) | (refine arl_cons rfl rfl (by simp +decide only [aop, abuiltin, aeval, aintBin, bin_int, aload_bump, SS, reduceIte, reduceCtorEq, hl3]; exact rfl) (by first | rfl | with_reducible assumption) rfl ?_) | (refine arl_none rfl rfl (by simp +decide only [aop, abuiltin, aeval, aintBin, bin_int, aload_bump, SS, reduceIte, reduceCtorEq, hl3]; exact rfl) rfl rfl ?_) | (refine arl_off rfl rfl ?_) | (refine aw_condT (by simp +decide only [aop, abuiltin, aeval, aintBin, bin_int, aload_bump, SS, reduceIte, reduceCtorEq, hl3]; first | done | exact rfl) ?_) | (refine aw_condF (by simp +decide only [aop, abuiltin, aeval, aintBin, bin_int, aload_bump, SS, reduceIte, reduceCtorEq, hl3]; first | done | exact rfl) ?_))
  refine arl_call rfl rfl rfl rfl rfl rfl ((vSize_ok (by repeat (first | assumption | (refine WF.bump ?_ _))) (v := 64) (by unfold fit; omega)).wf (by repeat (first | assumption | (refine WF.bump ?_ _) | (refine WF.put ?_ (by simp only [n_bump, n_put, n_touch, n_kill] at *; omega) (by simp only [n_bump, n_put, n_touch, n_kill] at *; omega)))) |>.mono ?_)
  rintro r s4 ⟨hw4, hn4, hE4, rfl⟩
  refine ⟨by first | rfl | with_reducible assumption, ?_⟩
  replace hE4 : Ext s3 s4 := Keeps.trans (by repeat (first | assumption | exact Keeps.refl _ _ | (refine Keeps.bumpR ?_ _) | (refine Keeps.put ?_ (by assumption) (by simp only [n_bump, n_put, n_touch, n_kill] at *; omega)))) hE4
  have hN4 := hE4.n
  rw [vput64p]
  have hT4 := (hT2.trans hE3).trans hE4
  have hO4 := (hO2.up hE3).up hE4
  have hN3 := hE3.n
  have hN4 := hE4.n
  repeat (first | (refine aw_seq ?_) | (refine aw_reg0 (by simp only [SZ, Nat.reduceAdd]; exact rfl) ?_) | (refine aw_reg (by decide +kernel) (by simp only [SZ, Nat.reduceAdd]; exact rfl) ?_) | (refine aw_regS (by decide +kernel) (by simp only [SZ, Nat.reduceAdd]; exact rfl) ?_) | (refine arl_nil ?_) | (refine aw_skip ?_) | (refine aw_block ?_) | (refine aw_exit ?_) | (refine aw_ret ?_) | (refine arl_cons rfl rfl (by simp +decide only [aop, abuiltin, aeval, aintBin, bin_int, aload_bump, SS, reduceIte, reduceCtorEq, hln]; exact rfl) (by first | rfl | with_reducible assumption) rfl ?_) | (refine arl_none rfl rfl (by simp +decide only [aop, abuiltin, aeval, aintBin, bin_int, aload_bump, SS, reduceIte, reduceCtorEq, hln]; exact rfl) rfl rfl ?_) | (refine arl_off rfl rfl ?_) | (refine aw_condT (by simp +decide only [aop, abuiltin, aeval, aintBin, bin_int, aload_bump, SS, reduceIte, reduceCtorEq, hln]; first | done | exact rfl) ?_) | (refine aw_condF (by simp +decide only [aop, abuiltin, aeval, aintBin, bin_int, aload_bump, SS, reduceIte, reduceCtorEq, hln]; first | done | exact rfl) ?_))
  refine AW.mono (AW.wf (aw_rounds_wf (fun m fr s => Ext st s ∧ s2.n ≤ s.n ∧ ∃ k : Nat, k ≤ vs.length ∧ m = vs.length - k ∧ fr 0 = v ∧ fr 1 = tv ∧ fr 5 = p ∧ fr 6 = i64 (rowsN (vs.take k)).length ∧ fr 43 = v ∧ fr 44 = i64 vs.length ∧ fr 45 = i64 k ∧ BxO s (fun g => st.n ≤ g ∧ g < s.n) WR p (rowsN (vs.take k)) 1048576 ∧ (rowsN (vs.take k)).length ≤ 1048576)
    (Q := fun e fr s => (e = .exit 0 ∧ Ext st s ∧ fr 0 = v ∧ fr 1 = tv ∧ fr 5 = p ∧ BxO s (fun g => st.n ≤ g ∧ g < s.n) WR p (rowsN vs) 1048576 ∧ (rowsN vs).length ≤ 1048576) ∨ (e = .ret ∧ fr 4 = .pl (.bool true))) ?_ vs.length _ _ (by repeat (first | assumption | (refine WF.bump ?_ _))) ?_) (by repeat (first | assumption | (refine WF.bump ?_ _)))) ?_
  · rintro m fr sx hwx ⟨hE, hsn, k, hk, rfl, f0, f1, f5, f6, f43, f44, f45, hO, hlo⟩
    have hEn := hE.n
    by_cases hlt : k < vs.length
    · have d1 : decide ((k : Int) < (vs.length : Int)) = true := decide_eq_true (by omega)
      obtain ⟨q, q1, q2, q3⟩ := num_at (h.up hE) k hlt
      have hfv := hv _ (List.getElem_mem hlt)
      have hpl := vput_len hfv
      have hsuc := rowsN_succ vs k hlt
      obtain ⟨x, hx⟩ : ∃ x, vs[k] = x := ⟨_, rfl⟩
      rw [hx] at q3 hfv hpl hsuc
      repeat (first | (refine aw_seq ?_) | (refine aw_reg0 (by simp only [SZ, Nat.reduceAdd]; exact rfl) ?_) | (refine aw_reg (by decide +kernel) (by simp only [SZ, Nat.reduceAdd]; exact rfl) ?_) | (refine aw_regS (by decide +kernel) (by simp only [SZ, Nat.reduceAdd]; exact rfl) ?_) | (refine arl_nil ?_) | (refine aw_skip ?_) | (refine aw_block ?_) | (refine aw_exit ?_) | (refine aw_ret ?_) | (refine arl_cons rfl rfl (by simp +decide only [aop, abuiltin, aeval, aintBin, bin_int, aload_bump, SS, reduceIte, reduceCtorEq, f45, f44, d1, f43, q1, q3]; exact rfl) (by first | rfl | with_reducible assumption) rfl ?_) | (refine arl_none rfl rfl (by simp +decide only [aop, abuiltin, aeval, aintBin, bin_int, aload_bump, SS, reduceIte, reduceCtorEq, f45, f44, d1, f43, q1, q3]; exact rfl) rfl rfl ?_) | (refine arl_off rfl rfl ?_) | (refine aw_condT (by simp +decide only [aop, abuiltin, aeval, aintBin, bin_int, aload_bump, SS, reduceIte, reduceCtorEq, f45, f44, d1, f43, q1, q3]; first | done | exact rfl) ?_) | (refine aw_condF (by simp +decide only [aop, abuiltin, aeval, aintBin, bin_int, aload_bump, SS, reduceIte, reduceCtorEq, f45, f44, d1, f43, q1, q3]; first | done | exact rfl) ?_))
      refine arl_call rfl rfl rfl rfl rfl rfl ((vPut_ok (by repeat (first | assumption | (refine WF.bump ?_ _))) hfv).wf (by repeat (first | assumption | (refine WF.bump ?_ _) | (refine WF.put ?_ (by simp only [n_bump, n_put, n_touch, n_kill] at *; omega) (by simp only [n_bump, n_put, n_touch, n_kill] at *; omega)))) |>.mono ?_)
      rintro pv s5 ⟨hw5, hn5, hE5, hpvs, hP⟩
      refine ⟨by first | rfl | with_reducible assumption, ?_⟩
      replace hE5 : Ext sx s5 := Keeps.trans (by repeat (first | assumption | exact Keeps.refl _ _ | (refine Keeps.bumpR ?_ _) | (refine Keeps.put ?_ (by assumption) (by simp only [n_bump, n_put, n_touch, n_kill] at *; omega)))) hE5
      have hN5 := hE5.n
      replace hP := (hP.rd.lt hw5).mono (K' := fun g => sx.n ≤ g ∧ g < s5.n) (fun g hg => ⟨by have := hg.1; simp only [n_bump] at this; omega, hg.2⟩)
      have hlp := hP.len
      have hN5 := hE5.n
      obtain ⟨b, hb⟩ : ∃ b, vput x = b := ⟨_, rfl⟩
      rw [hb] at hP hlp hpl hsuc
      have hw16 : IntKind.i16.wrap (b.length : Int) = (b.length : Int) := by
        simp [IntKind.wrap, IntKind.bits, IntKind.signed]
        omega
      have hbl2 : (bes (b.length : Int) 2).length = 2 := bes_len _ _
      have hsl : (rowsN (vs.take (k + 1))).length = (rowsN (vs.take k)).length + 2 + b.length := by rw [hsuc, List.length_append, List.length_append, hbl2]
      obtain ⟨B, hB⟩ : ∃ B, rowsN (vs.take k) = B := ⟨_, rfl⟩
      rw [hB] at f6 hO hlo hsuc hsl
      repeat (first | (refine aw_seq ?_) | (refine aw_reg0 (by simp only [SZ, Nat.reduceAdd]; exact rfl) ?_) | (refine aw_reg (by decide +kernel) (by simp only [SZ, Nat.reduceAdd]; exact rfl) ?_) | (refine aw_regS (by decide +kernel) (by simp only [SZ, Nat.reduceAdd]; exact rfl) ?_) | (refine arl_nil ?_) | (refine aw_skip ?_) | (refine aw_block ?_) | (refine aw_exit ?_) | (refine aw_ret ?_) | (refine arl_cons rfl rfl (by simp +decide only [aop, abuiltin, aeval, aintBin, bin_int, aload_bump, SS, reduceIte, reduceCtorEq, f5, hlp, hcv, hw16]; exact rfl) (by first | rfl | with_reducible assumption) rfl ?_) | (refine arl_none rfl rfl (by simp +decide only [aop, abuiltin, aeval, aintBin, bin_int, aload_bump, SS, reduceIte, reduceCtorEq, f5, hlp, hcv, hw16]; exact rfl) rfl rfl ?_) | (refine arl_off rfl rfl ?_) | (refine aw_condT (by simp +decide only [aop, abuiltin, aeval, aintBin, bin_int, aload_bump, SS, reduceIte, reduceCtorEq, f5, hlp, hcv, hw16]; first | done | exact rfl) ?_) | (refine aw_condF (by simp +decide only [aop, abuiltin, aeval, aintBin, bin_int, aload_bump, SS, reduceIte, reduceCtorEq, f5, hlp, hcv, hw16]; first | done | exact rfl) ?_))
      refine arl_call rfl rfl rfl rfl rfl rfl ((wI16_ok (by repeat (first | assumption | (refine WF.bump ?_ _))) ((hO.up hE5).up (by repeat (first | exact Keeps.refl _ _ | (refine Keeps.bumpR ?_ _)))) (b.length : Int) (by omega) (by omega)).wf (by repeat (first | assumption | (refine WF.bump ?_ _) | (refine WF.put ?_ (by simp only [n_bump, n_put, n_touch, n_kill] at *; omega) (by simp only [n_bump, n_put, n_touch, n_kill] at *; omega)))) |>.mono ?_)
      rintro r s6 ⟨hw6, hn6, hE6, rfl, hO6⟩
      refine ⟨rfl, ?_⟩
      replace hE6 : Keeps (fun g => st.n ≤ g ∧ g < sx.n) s5 s6 := Keeps.trans (Keeps.mono (G := fun _ => False) (show Ext s5 _ from (by repeat (first | exact Keeps.refl _ _ | (refine Keeps.bumpR ?_ _)))) (fun _ h => h.elim)) hE6
      have hN6 := hE6.n
      rw [bes_natW _ _ (by omega)] at hO6
      have hP6 := hP.keep hE6 (fun g hg h => by omega)
      obtain ⟨B1, hB1⟩ : ∃ B1, (if (2 : Int) ≤ 1048576 - (B.length : Int) then B ++ bes (b.length : Int) 2 else B) = B1 := ⟨_, rfl⟩
      rw [hB1] at hO6
      have hB1l : B1.length ≤ 1048576 ∧ B1.length ≤ B.length + 2 := by
        rw [← hB1]
        split
        · rw [List.length_append, hbl2]; omega
        · omega
      replace hO6 := (hO6.lt hw6).mono (K' := fun g => (st.n ≤ g ∧ g < sx.n) ∨ (s5.n ≤ g ∧ g < s6.n)) (fun g hg => by rcases hg with ⟨h | h, h2⟩; exact .inl h; simp only [n_bump] at h; exact .inr ⟨by omega, h2⟩)
      have hlit := fun id => litJ1 hP6 id
      repeat (first | (refine aw_seq ?_) | (refine aw_reg0 (by simp only [SZ, Nat.reduceAdd]; exact rfl) ?_) | (refine aw_reg (by decide +kernel) (by simp only [SZ, Nat.reduceAdd]; exact rfl) ?_) | (refine aw_regS (by decide +kernel) (by simp only [SZ, Nat.reduceAdd]; exact rfl) ?_) | (refine arl_nil ?_) | (refine aw_skip ?_) | (refine aw_block ?_) | (refine aw_exit ?_) | (refine aw_ret ?_) | (refine arl_cons rfl rfl (by simp +decide only [aop, abuiltin, aeval, aintBin, bin_int, aload_bump, SS, reduceIte, reduceCtorEq, f5, hlit]; exact rfl) (by first | rfl | with_reducible assumption) rfl ?_) | (refine arl_none rfl rfl (by simp +decide only [aop, abuiltin, aeval, aintBin, bin_int, aload_bump, SS, reduceIte, reduceCtorEq, f5, hlit]; exact rfl) rfl rfl ?_) | (refine arl_off rfl rfl ?_) | (refine aw_condT (by simp +decide only [aop, abuiltin, aeval, aintBin, bin_int, aload_bump, SS, reduceIte, reduceCtorEq, f5, hlit]; first | done | exact rfl) ?_) | (refine aw_condF (by simp +decide only [aop, abuiltin, aeval, aintBin, bin_int, aload_bump, SS, reduceIte, reduceCtorEq, f5, hlit]; first | done | exact rfl) ?_))
      refine arl_call rfl rfl rfl rfl rfl rfl ((wraw_ok (ps := [b]) (Kr := fun g => s6.n ≤ g ∧ g < s6.n + 5) (Kp := fun g => sx.n ≤ g ∧ g < s5.n) (by repeat (first | assumption | (refine WF.bump ?_ _) | (refine WF.put ?_ (by simp only [n_bump, n_put, n_touch, n_kill] at *; omega) (by simp only [n_bump, n_put, n_touch, n_kill] at *; omega)))) (hO6.up (by repeat (first | assumption | exact Keeps.refl _ _ | (refine Keeps.bumpR ?_ _) | (refine Keeps.put ?_ (by assumption) (by simp only [n_bump, n_put, n_touch, n_kill] at *; omega))))) ?hlit2 ?hr ?hq ?hm ?hl2 ?hfl ?hpl).wf (by repeat (first | assumption | (refine WF.bump ?_ _) | (refine WF.put ?_ (by simp only [n_bump, n_put, n_touch, n_kill] at *; omega) (by simp only [n_bump, n_put, n_touch, n_kill] at *; omega)))) |>.mono ?_)
      case hlit2 => exact RdL.lit1K ⟨pv, rfl, hP6.up (by repeat (first | assumption | exact Keeps.refl _ _ | (refine Keeps.bumpR ?_ _) | (refine Keeps.put ?_ (by assumption) (by simp only [n_bump, n_put, n_touch, n_kill] at *; omega))))⟩ _ ⟨by omega, by omega⟩ _
      case hr => simp only [n_bump, n_put] at *; intro g h; omega
      case hq => simp only [n_bump, n_put] at *; intro g h; omega
      case hm => omega
      case hl2 => omega
      case hfl => simp; omega
      case hpl => simp
      rintro r s7 ⟨hw7, hn7, hE7, rfl, hO7⟩
      refine ⟨rfl, ?_⟩
      replace hE7 : Keeps (fun g => (st.n ≤ g ∧ g < sx.n) ∨ (s5.n ≤ g ∧ g < s6.n)) s6 s7 := Keeps.trans (Keeps.mono (G := fun _ => False) (show Ext s6 _ from (by repeat (first | assumption | exact Keeps.refl _ _ | (refine Keeps.bumpR ?_ _) | (refine Keeps.put ?_ (by assumption) (by simp only [n_bump, n_put, n_touch, n_kill] at *; omega))))) (fun _ h => h.elim)) hE7
      have hN7 := hE7.n
      have hfx : ([b] : List (List Int)).flatten = b := by simp
      rw [hfx] at hO7 ⊢
      replace hO7 := (hO7.lt hw7).mono (K' := fun g => st.n ≤ g ∧ g < s7.n) (fun g hg => ⟨by rcases hg.1 with h | h; (rcases h with h | h <;> omega); simp only [n_bump, n_put] at h; omega, hg.2⟩)
      have hT6 : Ext st s6 := Keeps.call (hE.trans hE5) hE6 hw (fun g hg => .inr hg.1)
      have hT7 : Ext st s7 := Keeps.call hT6 hE7 hw (fun g hg => .inr (by rcases hg with h | h; exact h.1; omega))
      have hwa : IntKind.i64.wrap ((B.length : Int) + 2) = ((B.length + 2 : Nat) : Int) := by rw [wrap64_of (by omega) (by omega)]; omega
      have hwb : IntKind.i64.wrap (((B.length + 2 : Nat) : Int) + (b.length : Int)) = ((B.length + 2 + b.length : Nat) : Int) := by rw [wrap64_of (by omega) (by omega)]; omega
      repeat (first | (refine aw_seq ?_) | (refine aw_reg0 (by simp only [SZ, Nat.reduceAdd]; exact rfl) ?_) | (refine aw_reg (by decide +kernel) (by simp only [SZ, Nat.reduceAdd]; exact rfl) ?_) | (refine aw_regS (by decide +kernel) (by simp only [SZ, Nat.reduceAdd]; exact rfl) ?_) | (refine arl_nil ?_) | (refine aw_skip ?_) | (refine aw_block ?_) | (refine aw_exit ?_) | (refine aw_ret ?_) | (refine arl_cons rfl rfl (by simp +decide only [aop, abuiltin, aeval, aintBin, bin_int, aload_bump, SS, reduceIte, reduceCtorEq, f6, hwa]; exact rfl) (by first | rfl | with_reducible assumption) rfl ?_) | (refine arl_none rfl rfl (by simp +decide only [aop, abuiltin, aeval, aintBin, bin_int, aload_bump, SS, reduceIte, reduceCtorEq, f6, hwa]; exact rfl) rfl rfl ?_) | (refine arl_off rfl rfl ?_) | (refine aw_condT (by simp +decide only [aop, abuiltin, aeval, aintBin, bin_int, aload_bump, SS, reduceIte, reduceCtorEq, f6, hwa]; first | done | exact rfl) ?_) | (refine aw_condF (by simp +decide only [aop, abuiltin, aeval, aintBin, bin_int, aload_bump, SS, reduceIte, reduceCtorEq, f6, hwa]; first | done | exact rfl) ?_))
      refine arl_call rfl rfl rfl rfl rfl rfl ((vSize_ok (by repeat (first | assumption | (refine WF.bump ?_ _))) hfv).wf (by repeat (first | assumption | (refine WF.bump ?_ _) | (refine WF.put ?_ (by simp only [n_bump, n_put, n_touch, n_kill] at *; omega) (by simp only [n_bump, n_put, n_touch, n_kill] at *; omega)))) |>.mono ?_)
      rintro r s8 ⟨hw8, hn8, hE8, rfl⟩
      refine ⟨by first | rfl | with_reducible assumption, ?_⟩
      replace hE8 : Ext s7 s8 := Keeps.trans (by repeat (first | assumption | exact Keeps.refl _ _ | (refine Keeps.bumpR ?_ _) | (refine Keeps.put ?_ (by assumption) (by simp only [n_bump, n_put, n_touch, n_kill] at *; omega)))) hE8
      have hN8 := hE8.n
      rw [hb]
      have hwk := wrap_succ (k := k) (by omega)
      by_cases hbig : 1048576 < B.length + 2 + b.length
      · have d2 : decide (1048576 < ((B.length + 2 + b.length : Nat) : Int)) = true := decide_eq_true (by omega)
        by_cases h2 : (2 : Int) ≤ 1048576 - (B.length : Int)
        · rw [if_pos h2] at hB1 ⊢
          have hB1l2 : B1.length = B.length + 2 := by rw [← hB1, List.length_append, hbl2]
          rw [if_pos (show (b.length : Int) > 1048576 - B1.length by omega)]
          repeat (first | (refine aw_seq ?_) | (refine aw_reg0 (by simp only [SZ, Nat.reduceAdd]; exact rfl) ?_) | (refine aw_reg (by decide +kernel) (by simp only [SZ, Nat.reduceAdd]; exact rfl) ?_) | (refine aw_regS (by decide +kernel) (by simp only [SZ, Nat.reduceAdd]; exact rfl) ?_) | (refine arl_nil ?_) | (refine aw_skip ?_) | (refine aw_block ?_) | (refine aw_exit ?_) | (refine aw_ret ?_) | (refine arl_cons rfl rfl (by simp +decide only [aop, abuiltin, aeval, aintBin, bin_int, aload_bump, SS, reduceIte, reduceCtorEq, hwb, d2]; exact rfl) (by first | rfl | with_reducible assumption) rfl ?_) | (refine arl_none rfl rfl (by simp +decide only [aop, abuiltin, aeval, aintBin, bin_int, aload_bump, SS, reduceIte, reduceCtorEq, hwb, d2]; exact rfl) rfl rfl ?_) | (refine arl_off rfl rfl ?_) | (refine aw_condT (by simp +decide only [aop, abuiltin, aeval, aintBin, bin_int, aload_bump, SS, reduceIte, reduceCtorEq, hwb, d2]; first | done | exact rfl) ?_) | (refine aw_condF (by simp +decide only [aop, abuiltin, aeval, aintBin, bin_int, aload_bump, SS, reduceIte, reduceCtorEq, hwb, d2]; first | done | exact rfl) ?_))
          exact .inr ⟨rfl, rfl⟩
        · rw [if_neg h2]
          repeat (first | (refine aw_seq ?_) | (refine aw_reg0 (by simp only [SZ, Nat.reduceAdd]; exact rfl) ?_) | (refine aw_reg (by decide +kernel) (by simp only [SZ, Nat.reduceAdd]; exact rfl) ?_) | (refine aw_regS (by decide +kernel) (by simp only [SZ, Nat.reduceAdd]; exact rfl) ?_) | (refine arl_nil ?_) | (refine aw_skip ?_) | (refine aw_block ?_) | (refine aw_exit ?_) | (refine aw_ret ?_) | (refine arl_cons rfl rfl (by simp +decide only [aop, abuiltin, aeval, aintBin, bin_int, aload_bump, SS, reduceIte, reduceCtorEq, hwb, d2]; exact rfl) (by first | rfl | with_reducible assumption) rfl ?_) | (refine arl_none rfl rfl (by simp +decide only [aop, abuiltin, aeval, aintBin, bin_int, aload_bump, SS, reduceIte, reduceCtorEq, hwb, d2]; exact rfl) rfl rfl ?_) | (refine arl_off rfl rfl ?_) | (refine aw_condT (by simp +decide only [aop, abuiltin, aeval, aintBin, bin_int, aload_bump, SS, reduceIte, reduceCtorEq, hwb, d2]; first | done | exact rfl) ?_) | (refine aw_condF (by simp +decide only [aop, abuiltin, aeval, aintBin, bin_int, aload_bump, SS, reduceIte, reduceCtorEq, hwb, d2]; first | done | exact rfl) ?_))
          exact .inr ⟨rfl, rfl⟩
      · have d2 : decide (1048576 < ((B.length + 2 + b.length : Nat) : Int)) = false := decide_eq_false (by omega)
        have h2 : (2 : Int) ≤ 1048576 - (B.length : Int) := by omega
        rw [if_pos h2] at hB1 ⊢
        have hB1l2 : B1.length = B.length + 2 := by rw [← hB1, List.length_append, hbl2]
        rw [if_neg (show ¬ (b.length : Int) > 1048576 - B1.length by omega)] at hO7 ⊢
        have hO8 := hO7.up hE8
        have hBl : (B1 ++ b).length = B.length + 2 + b.length := by rw [List.length_append]; omega
        have hn0 : (((B.length + 2 + b.length : Nat) : Int) != ((B.length + 2 + b.length : Nat) : Int)) = false := by simp
        repeat (first | (refine aw_seq ?_) | (refine aw_reg0 (by simp only [SZ, Nat.reduceAdd]; exact rfl) ?_) | (refine aw_reg (by decide +kernel) (by simp only [SZ, Nat.reduceAdd]; exact rfl) ?_) | (refine aw_regS (by decide +kernel) (by simp only [SZ, Nat.reduceAdd]; exact rfl) ?_) | (refine arl_nil ?_) | (refine aw_skip ?_) | (refine aw_block ?_) | (refine aw_exit ?_) | (refine aw_ret ?_) | (refine arl_cons rfl rfl (by simp +decide only [aop, abuiltin, aeval, aintBin, bin_int, aload_bump, SS, reduceIte, reduceCtorEq, hwb, d2, f5]; exact rfl) (by first | rfl | with_reducible assumption) rfl ?_) | (refine arl_none rfl rfl (by simp +decide only [aop, abuiltin, aeval, aintBin, bin_int, aload_bump, SS, reduceIte, reduceCtorEq, hwb, d2, f5]; exact rfl) rfl rfl ?_) | (refine arl_off rfl rfl ?_) | (refine aw_condT (by simp +decide only [aop, abuiltin, aeval, aintBin, bin_int, aload_bump, SS, reduceIte, reduceCtorEq, hwb, d2, f5]; first | done | exact rfl) ?_) | (refine aw_condF (by simp +decide only [aop, abuiltin, aeval, aintBin, bin_int, aload_bump, SS, reduceIte, reduceCtorEq, hwb, d2, f5]; first | done | exact rfl) ?_))
        refine arl_call rfl rfl rfl rfl rfl rfl ((wlen_ok (hO8.up (by repeat (first | exact Keeps.refl _ _ | (refine Keeps.bumpR ?_ _))))).wf (by repeat (first | assumption | (refine WF.bump ?_ _) | (refine WF.put ?_ (by simp only [n_bump, n_put, n_touch, n_kill] at *; omega) (by simp only [n_bump, n_put, n_touch, n_kill] at *; omega)))) |>.mono ?_)
        rintro r s9 ⟨hw9, hn9, hE9, rfl⟩
        refine ⟨by first | rfl | with_reducible assumption, ?_⟩
        replace hE9 : Ext s8 s9 := Keeps.trans (by repeat (first | assumption | exact Keeps.refl _ _ | (refine Keeps.bumpR ?_ _) | (refine Keeps.put ?_ (by assumption) (by simp only [n_bump, n_put, n_touch, n_kill] at *; omega)))) hE9
        have hN9 := hE9.n
        rw [hBl]
        repeat (first | (refine aw_seq ?_) | (refine aw_reg0 (by simp only [SZ, Nat.reduceAdd]; exact rfl) ?_) | (refine aw_reg (by decide +kernel) (by simp only [SZ, Nat.reduceAdd]; exact rfl) ?_) | (refine aw_regS (by decide +kernel) (by simp only [SZ, Nat.reduceAdd]; exact rfl) ?_) | (refine arl_nil ?_) | (refine aw_skip ?_) | (refine aw_block ?_) | (refine aw_exit ?_) | (refine aw_ret ?_) | (refine arl_cons rfl rfl (by simp +decide only [aop, abuiltin, aeval, aintBin, bin_int, aload_bump, SS, reduceIte, reduceCtorEq, hn0, f45, hwk]; exact rfl) (by first | rfl | with_reducible assumption) rfl ?_) | (refine arl_none rfl rfl (by simp +decide only [aop, abuiltin, aeval, aintBin, bin_int, aload_bump, SS, reduceIte, reduceCtorEq, hn0, f45, hwk]; exact rfl) rfl rfl ?_) | (refine arl_off rfl rfl ?_) | (refine aw_condT (by simp +decide only [aop, abuiltin, aeval, aintBin, bin_int, aload_bump, SS, reduceIte, reduceCtorEq, hn0, f45, hwk]; first | done | exact rfl) ?_) | (refine aw_condF (by simp +decide only [aop, abuiltin, aeval, aintBin, bin_int, aload_bump, SS, reduceIte, reduceCtorEq, hn0, f45, hwk]; first | done | exact rfl) ?_))
        have hN8 := hE8.n
        have hN9 := hE9.n
        refine ⟨vs.length - (k + 1), by omega, ((hT7.trans hE8).trans hE9).trans (by repeat (first | exact Keeps.refl _ _ | (refine Keeps.bumpR ?_ _))), by simp only [n_bump]; omega, k + 1, by omega, rfl, f0, f1, f5, ?_, f43, f44, rfl, ?_, by rw [hsl]; omega⟩
        · rw [hsl]; rfl
        · rw [hsuc, hB1]
          exact ((hO8.up hE9).mono (fun g hg => by simp only [n_bump]; omega)).up (by repeat (first | exact Keeps.refl _ _ | (refine Keeps.bumpR ?_ _)))
    · have d1 : decide ((k : Int) < (vs.length : Int)) = false := decide_eq_false (by omega)
      obtain rfl : k = vs.length := by omega
      rw [List.take_length] at hO hlo
      repeat (first | (refine aw_seq ?_) | (refine aw_reg0 (by simp only [SZ, Nat.reduceAdd]; exact rfl) ?_) | (refine aw_reg (by decide +kernel) (by simp only [SZ, Nat.reduceAdd]; exact rfl) ?_) | (refine aw_regS (by decide +kernel) (by simp only [SZ, Nat.reduceAdd]; exact rfl) ?_) | (refine arl_nil ?_) | (refine aw_skip ?_) | (refine aw_block ?_) | (refine aw_exit ?_) | (refine aw_ret ?_) | (refine arl_cons rfl rfl (by simp +decide only [aop, abuiltin, aeval, aintBin, bin_int, aload_bump, SS, reduceIte, reduceCtorEq, f45, f44, d1]; exact rfl) (by first | rfl | with_reducible assumption) rfl ?_) | (refine arl_none rfl rfl (by simp +decide only [aop, abuiltin, aeval, aintBin, bin_int, aload_bump, SS, reduceIte, reduceCtorEq, f45, f44, d1]; exact rfl) rfl rfl ?_) | (refine arl_off rfl rfl ?_) | (refine aw_condT (by simp +decide only [aop, abuiltin, aeval, aintBin, bin_int, aload_bump, SS, reduceIte, reduceCtorEq, f45, f44, d1]; first | done | exact rfl) ?_) | (refine aw_condF (by simp +decide only [aop, abuiltin, aeval, aintBin, bin_int, aload_bump, SS, reduceIte, reduceCtorEq, f45, f44, d1]; first | done | exact rfl) ?_))
      exact .inl ⟨rfl, hE.trans (by repeat (first | exact Keeps.refl _ _ | (refine Keeps.bumpR ?_ _))), f0, f1, f5, (hO.mono (fun g hg => by simp only [n_bump]; omega)).up (by repeat (first | exact Keeps.refl _ _ | (refine Keeps.bumpR ?_ _))), hlo⟩
  · exact ⟨hT4.trans (by repeat (first | exact Keeps.refl _ _ | (refine Keeps.bumpR ?_ _))), by simp only [n_bump]; omega, 0, by omega, rfl, rfl, rfl, rfl, by rw [List.take_zero]; rfl, rfl, rfl, rfl, (hO4.mono (fun g hg => by simp only [n_bump]; omega)).up (by repeat (first | exact Keeps.refl _ _ | (refine Keeps.bumpR ?_ _))), by simp [rowsN, bes_len]⟩
  rintro e fr sx ⟨hwx, hnx, hcase⟩
  rcases hcase with ⟨rfl, hE, f0, f1, f5, hO, hlo⟩ | ⟨rfl, f4⟩
  · have hEn := hE.n
    have hbyN := rowsN_by vs hv
    obtain ⟨all, hall⟩ : ∃ all, rowsN vs ++ tail = all := ⟨_, rfl⟩
    have hal : all.length = (rowsN vs).length + tail.length := by rw [← hall, List.length_append]
    have hbyA : ∀ x ∈ all, 0 ≤ x ∧ x < 256 := fun x hx => by
      rw [← hall] at hx
      rcases List.mem_append.1 hx with hx | hx
      · exact hbyN x hx
      · exact hby x hx
    have h2l : ∀ n : Int, (bes n 2).length = 2 := fun n => bes_len _ _
    repeat (first | (refine aw_seq ?_) | (refine aw_reg0 (by simp only [SZ, Nat.reduceAdd]; exact rfl) ?_) | (refine aw_reg (by decide +kernel) (by simp only [SZ, Nat.reduceAdd]; exact rfl) ?_) | (refine aw_regS (by decide +kernel) (by simp only [SZ, Nat.reduceAdd]; exact rfl) ?_) | (refine arl_nil ?_) | (refine aw_skip ?_) | (refine aw_block ?_) | (refine aw_exit ?_) | (refine aw_ret ?_) | (refine arl_cons rfl rfl (by simp +decide only [aop, abuiltin, aeval, aintBin, bin_int, aload_bump, SS, reduceIte, reduceCtorEq, f5]; exact rfl) (by first | rfl | with_reducible assumption) rfl ?_) | (refine arl_none rfl rfl (by simp +decide only [aop, abuiltin, aeval, aintBin, bin_int, aload_bump, SS, reduceIte, reduceCtorEq, f5]; exact rfl) rfl rfl ?_) | (refine arl_off rfl rfl ?_) | (refine aw_condT (by simp +decide only [aop, abuiltin, aeval, aintBin, bin_int, aload_bump, SS, reduceIte, reduceCtorEq, f5]; first | done | exact rfl) ?_) | (refine aw_condF (by simp +decide only [aop, abuiltin, aeval, aintBin, bin_int, aload_bump, SS, reduceIte, reduceCtorEq, f5]; first | done | exact rfl) ?_))
    refine arl_call rfl rfl rfl rfl rfl rfl ((wbytes_ok (by repeat (first | assumption | (refine WF.bump ?_ _))) (hO.up (by repeat (first | exact Keeps.refl _ _ | (refine Keeps.bumpR ?_ _)))) (by omega)).dead.wf (by repeat (first | assumption | (refine WF.bump ?_ _) | (refine WF.put ?_ (by simp only [n_bump, n_put, n_touch, n_kill] at *; omega) (by simp only [n_bump, n_put, n_touch, n_kill] at *; omega)))) |>.mono ?_)
    rintro bv s5 ⟨hw5, hn5, hd5, hE5, hbvs, hB⟩
    refine ⟨hbvs, ?_⟩
    replace hE5 : Ext sx s5 := Keeps.trans (show Ext sx _ from (by repeat (first | exact Keeps.refl _ _ | (refine Keeps.bumpR ?_ _)))) hE5
    simp only [n_bump] at hn5
    have hput : ∀ o : AObj, Ext s5 (s5.put (sx.n + (0 + 1 + 1 + 1)) o) := fun o => Keeps.putF (Keeps.refl _ _) (hd5 _ (by first | omega | (simp only [n_bump, n_put]; omega) | (simp only [n_bump, n_put] at *; omega)) (fresh hwx (by first | omega | (simp only [n_bump, n_put]; omega) | (simp only [n_bump, n_put] at *; omega))))
    have hB5 := hB.rd
    have ht5 := (ht.up hE).up hE5
    have hlit := fun id => litJ2 hB5 ht5 id
    have hT5 := hE.trans hE5
    have hN5 := hE5.n
    repeat (first | (refine aw_seq ?_) | (refine aw_reg0 (by simp only [SZ, Nat.reduceAdd]; exact rfl) ?_) | (refine aw_reg (by decide +kernel) (by simp only [SZ, Nat.reduceAdd]; exact rfl) ?_) | (refine aw_regS (by decide +kernel) (by simp only [SZ, Nat.reduceAdd]; exact rfl) ?_) | (refine arl_nil ?_) | (refine aw_skip ?_) | (refine aw_block ?_) | (refine aw_exit ?_) | (refine aw_ret ?_) | (refine arl_cons rfl rfl (by simp +decide only [aop, abuiltin, aeval, aintBin, bin_int, aload_bump, SS, reduceIte, reduceCtorEq, f1, hlit]; exact rfl) (by first | rfl | with_reducible assumption) rfl ?_) | (refine arl_none rfl rfl (by simp +decide only [aop, abuiltin, aeval, aintBin, bin_int, aload_bump, SS, reduceIte, reduceCtorEq, f1, hlit]; exact rfl) rfl rfl ?_) | (refine arl_off rfl rfl ?_) | (refine aw_condT (by simp +decide only [aop, abuiltin, aeval, aintBin, bin_int, aload_bump, SS, reduceIte, reduceCtorEq, f1, hlit]; first | done | exact rfl) ?_) | (refine aw_condF (by simp +decide only [aop, abuiltin, aeval, aintBin, bin_int, aload_bump, SS, reduceIte, reduceCtorEq, f1, hlit]; first | done | exact rfl) ?_))
    refine arl_call rfl rfl rfl rfl rfl rfl ((join_ok (K := fun _ => True) (K' := fun _ => True) (ps := [rowsN vs, tail]) (by repeat (first | assumption | (refine WF.bump ?_ _) | (refine WF.put ?_ (by simp only [n_bump, n_put, n_touch, n_kill] at *; omega) (by simp only [n_bump, n_put, n_touch, n_kill] at *; omega)))) ?hJ2 ?hJl ?hJn).wf (by repeat (first | assumption | (refine WF.bump ?_ _) | (refine WF.put ?_ (by simp only [n_bump, n_put, n_touch, n_kill] at *; omega) (by simp only [n_bump, n_put, n_touch, n_kill] at *; omega)))) |>.mono ?_)
    case hJ2 =>
      refine .inr ⟨_, 0, true, _, rfl, get_put _ _, trivial, Nat.le_refl _, fun j x hx => ?_⟩
      match j, hx with
      | 0, hx =>
        simp only [List.getElem?_cons_zero, Option.some.injEq] at hx
        subst hx
        exact ⟨bv, rfl, (hB5.mono (fun _ _ => trivial)).up (hput _)⟩
      | 1, hx =>
        simp only [List.getElem?_cons_succ, List.getElem?_cons_zero, Option.some.injEq] at hx
        subst hx
        exact ⟨tv, rfl, (ht5.mono (fun _ _ => trivial)).up (hput _)⟩
      | j + 2, hx => simp at hx
    case hJl => simp; omega
    case hJn => simp
    rintro jv s6 ⟨hw6, hn6, hE6, hjs, hJ⟩
    refine ⟨hjs, ?_⟩
    replace hE6 : Ext s5 s6 := Keeps.trans (hput _) hE6
    have hN6 := hE6.n
    have hT6 := hT5.trans hE6
    have hfx : ([rowsN vs, tail] : List (List Int)).flatten = all := by rw [← hall]; simp
    rw [hfx] at hJ
    repeat (first | (refine aw_seq ?_) | (refine aw_reg0 (by simp only [SZ, Nat.reduceAdd]; exact rfl) ?_) | (refine aw_reg (by decide +kernel) (by simp only [SZ, Nat.reduceAdd]; exact rfl) ?_) | (refine aw_regS (by decide +kernel) (by simp only [SZ, Nat.reduceAdd]; exact rfl) ?_) | (refine arl_nil ?_) | (refine aw_skip ?_) | (refine aw_block ?_) | (refine aw_exit ?_) | (refine aw_ret ?_) | (refine arl_cons rfl rfl (by simp +decide only [aop, abuiltin, aeval, aintBin, bin_int, aload_bump, SS, reduceIte, reduceCtorEq]; exact rfl) (by first | rfl | with_reducible assumption) rfl ?_) | (refine arl_none rfl rfl (by simp +decide only [aop, abuiltin, aeval, aintBin, bin_int, aload_bump, SS, reduceIte, reduceCtorEq]; exact rfl) rfl rfl ?_) | (refine arl_off rfl rfl ?_) | (refine aw_condT (by simp +decide only [aop, abuiltin, aeval, aintBin, bin_int, aload_bump, SS, reduceIte, reduceCtorEq]; first | done | exact rfl) ?_) | (refine aw_condF (by simp +decide only [aop, abuiltin, aeval, aintBin, bin_int, aload_bump, SS, reduceIte, reduceCtorEq]; first | done | exact rfl) ?_))
    refine arl_call rfl rfl rfl rfl rfl rfl ((newReader_ok (by repeat (first | assumption | (refine WF.bump ?_ _))) (hJ.rd.up (by repeat (first | exact Keeps.refl _ _ | (refine Keeps.bumpR ?_ _)))) (by omega)).wf (by repeat (first | assumption | (refine WF.bump ?_ _) | (refine WF.put ?_ (by simp only [n_bump, n_put, n_touch, n_kill] at *; omega) (by simp only [n_bump, n_put, n_touch, n_kill] at *; omega)))) |>.mono ?_)
    rintro rp s7 ⟨hw7, hn7, hE7, hrps, hR⟩
    refine ⟨by first | rfl | with_reducible assumption, ?_⟩
    replace hE7 : Ext s6 s7 := Keeps.trans (by repeat (first | assumption | exact Keeps.refl _ _ | (refine Keeps.bumpR ?_ _) | (refine Keeps.put ?_ (by assumption) (by simp only [n_bump, n_put, n_touch, n_kill] at *; omega)))) hE7
    have hN7 := hE7.n
    replace hR := hR.mono (K' := fun g => s6.n ≤ g) (fun g hg => by first | omega | (simp only [n_bump] at hg; omega))
    have hrn := wNil rp hR.isPtr 33 (by kernel_rfl)
    have hT7 := hT6.trans hE7
    have hN7 := hE7.n
    repeat (first | (refine aw_seq ?_) | (refine aw_reg0 (by simp only [SZ, Nat.reduceAdd]; exact rfl) ?_) | (refine aw_reg (by decide +kernel) (by simp only [SZ, Nat.reduceAdd]; exact rfl) ?_) | (refine aw_regS (by decide +kernel) (by simp only [SZ, Nat.reduceAdd]; exact rfl) ?_) | (refine arl_nil ?_) | (refine aw_skip ?_) | (refine aw_block ?_) | (refine aw_exit ?_) | (refine aw_ret ?_) | (refine arl_cons rfl rfl (by simp +decide only [aop, abuiltin, aeval, aintBin, bin_int, aload_bump, SS, reduceIte, reduceCtorEq, hrn]; exact rfl) (by first | rfl | with_reducible assumption) rfl ?_) | (refine arl_none rfl rfl (by simp +decide only [aop, abuiltin, aeval, aintBin, bin_int, aload_bump, SS, reduceIte, reduceCtorEq, hrn]; exact rfl) rfl rfl ?_) | (refine arl_off rfl rfl ?_) | (refine aw_condT (by simp +decide only [aop, abuiltin, aeval, aintBin, bin_int, aload_bump, SS, reduceIte, reduceCtorEq, hrn]; first | done | exact rfl) ?_) | (refine aw_condF (by simp +decide only [aop, abuiltin, aeval, aintBin, bin_int, aload_bump, SS, reduceIte, reduceCtorEq, hrn]; first | done | exact rfl) ?_))
    refine arl_call rfl rfl rfl rfl rfl rfl ((rI16_ok (by repeat (first | assumption | (refine WF.bump ?_ _))) (a := 0) (hR.up (by repeat (first | exact Keeps.refl _ _ | (refine Keeps.bumpR ?_ _)))) (by omega) (by omega) hbyA).wf (by repeat (first | assumption | (refine WF.bump ?_ _) | (refine WF.put ?_ (by simp only [n_bump, n_put, n_touch, n_kill] at *; omega) (by simp only [n_bump, n_put, n_touch, n_kill] at *; omega)))) |>.mono ?_)
    rintro r s8 ⟨hw8, hn8, hE8, rfl, hR8⟩
    have h0 : rowsN vs = bes 5 2 ++ (vs.map nrow).flatten := rfl
    have hl0 : 2 ≤ all.length := by rw [hal, h0, List.length_append, h2l]; omega
    have hv5 : val ((all.drop 0).take 2) = 5 := by
      rw [List.drop_zero, ← hall, h0, List.append_assoc, List.take_append_of_le_length (by rw [h2l]; omega), List.take_of_length_le (by rw [h2l]; omega)]
      exact val_bes2 5 (by omega)
    have hw5' : IntKind.i16.wrap 5 = 5 := by decide
    rw [if_pos (by omega)] at hR8
    rw [if_pos (show 2 ≤ all.length - 0 by omega), hv5, hw5']
    refine ⟨rfl, ?_⟩
    replace hE8 : Keeps (fun g => s6.n ≤ g) s7 s8 := Keeps.trans (Keeps.mono (G := fun _ => False) (show Ext s7 _ from (by repeat (first | exact Keeps.refl _ _ | (refine Keeps.bumpR ?_ _)))) (fun _ h => h.elim)) hE8
    have hN8 := hE8.n
    have hT8 : Ext st s8 := Keeps.call hT7 hE8 hw (fun g hg => .inr (by omega))
    have hst6 : st.n ≤ s6.n := hT6.n
    repeat (first | (refine aw_seq ?_) | (refine aw_reg0 (by simp only [SZ, Nat.reduceAdd]; exact rfl) ?_) | (refine aw_reg (by decide +kernel) (by simp only [SZ, Nat.reduceAdd]; exact rfl) ?_) | (refine aw_regS (by decide +kernel) (by simp only [SZ, Nat.reduceAdd]; exact rfl) ?_) | (refine arl_nil ?_) | (refine aw_skip ?_) | (refine aw_block ?_) | (refine aw_exit ?_) | (refine aw_ret ?_) | (refine arl_cons rfl rfl (by simp +decide only [aop, abuiltin, aeval, aintBin, bin_int, aload_bump, SS, reduceIte, reduceCtorEq, f0, hln]; exact rfl) (by first | rfl | with_reducible assumption) rfl ?_) | (refine arl_none rfl rfl (by simp +decide only [aop, abuiltin, aeval, aintBin, bin_int, aload_bump, SS, reduceIte, reduceCtorEq, f0, hln]; exact rfl) rfl rfl ?_) | (refine arl_off rfl rfl ?_) | (refine aw_condT (by simp +decide only [aop, abuiltin, aeval, aintBin, bin_int, aload_bump, SS, reduceIte, reduceCtorEq, f0, hln]; first | done | exact rfl) ?_) | (refine aw_condF (by simp +decide only [aop, abuiltin, aeval, aintBin, bin_int, aload_bump, SS, reduceIte, reduceCtorEq, f0, hln]; first | done | exact rfl) ?_))
    refine AW.mono (AW.wf (aw_rounds_wf (fun m fr s => Ext st s ∧ s6.n ≤ s.n ∧ ∃ k : Nat, k ≤ vs.length ∧ m = vs.length - k ∧ fr 1 = tv ∧ fr 12 = rp ∧ fr 105 = v ∧ fr 106 = i64 vs.length ∧ fr 107 = i64 k ∧ BxO s (fun g => s6.n ≤ g) RD rp all (rowsN (vs.take k)).length)
      (Q := fun e fr s => e = .exit 2 ∧ Ext st s ∧ s6.n ≤ s.n ∧ fr 1 = tv ∧ fr 12 = rp ∧ BxO s (fun g => s6.n ≤ g) RD rp all (rowsN vs).length) ?_ vs.length _ _ (by repeat (first | assumption | (refine WF.bump ?_ _))) ?_) (by repeat (first | assumption | (refine WF.bump ?_ _)))) ?_
    · rintro m fr sx hwx ⟨hE, hsn, k, hk, rfl, f1, f12, f105, f106, f107, hR⟩
      have hEn := hE.n
      by_cases hlt : k < vs.length
      · have d1 : decide ((k : Int) < (vs.length : Int)) = true := decide_eq_true (by omega)
        obtain ⟨q, q1, q2, q3⟩ := num_at (h.up hE) k hlt
        have hfv := hv _ (List.getElem_mem hlt)
        have hpl := vput_len hfv
        have hsuc := rowsN_succ vs k hlt
        have hgv := getS_vputA hfv
        have hvb := vput_byts hfv
        obtain ⟨rest, hrest⟩ := rowsN_drop vs k hlt
        obtain ⟨x, hx⟩ : ∃ x, vs[k] = x := ⟨_, rfl⟩
        rw [hx] at q3 hfv hpl hsuc hrest hgv hvb
        obtain ⟨b, hb⟩ : ∃ b, vput x = b := ⟨_, rfl⟩
        rw [hb] at hpl hsuc hrest hgv hvb
        obtain ⟨A, hA⟩ : ∃ A, rowsN (vs.take k) = A := ⟨_, rfl⟩
        rw [hA] at hR hsuc hrest
        have hlen : (rowsN (vs.take (k + 1))).length = A.length + 2 + b.length := by rw [hsuc, List.length_append, List.length_append, h2l]
        have hall2 : all = A ++ (bes (b.length : Int) 2 ++ (b ++ (rest ++ tail))) := by rw [← hall, hrest]; simp [List.append_assoc]
        have hallL : all.length = A.length + (2 + (b.length + (rest.length + tail.length))) := by rw [hall2]; simp only [List.length_append, h2l]
        have hd1 : val ((all.drop A.length).take 2) = b.length := by
          rw [hall2, List.drop_left, List.take_append_of_le_length (by rw [h2l]; omega), List.take_of_length_le (by rw [h2l]; omega)]
          exact val_bes2 _ (by omega)
        have hd2 : (all.drop (A.length + 2)).take (b.length : Int).toNat = b := by
          rw [hall2, show A.length + 2 = (A ++ bes (b.length : Int) 2).length from by rw [List.length_append, h2l], ← List.append_assoc, List.drop_left, Int.toNat_natCast, List.take_left]
        have hw16 : IntKind.i16.wrap (b.length : Int) = (b.length : Int) := by
          simp [IntKind.wrap, IntKind.bits, IntKind.signed]
          omega
        have hw64 : IntKind.i64.wrap (b.length : Int) = (b.length : Int) := wrap64_of (by omega) (by omega)
        have hwk := wrap_succ (k := k) (by omega)
        repeat (first | (refine aw_seq ?_) | (refine aw_reg0 (by simp only [SZ, Nat.reduceAdd]; exact rfl) ?_) | (refine aw_reg (by decide +kernel) (by simp only [SZ, Nat.reduceAdd]; exact rfl) ?_) | (refine aw_regS (by decide +kernel) (by simp only [SZ, Nat.reduceAdd]; exact rfl) ?_) | (refine arl_nil ?_) | (refine aw_skip ?_) | (refine aw_block ?_) | (refine aw_exit ?_) | (refine aw_ret ?_) | (refine arl_cons rfl rfl (by simp +decide only [aop, abuiltin, aeval, aintBin, bin_int, aload_bump, SS, reduceIte, reduceCtorEq, f107, f106, d1, f105, q1, q3, f12]; exact rfl) (by first | rfl | with_reducible assumption) rfl ?_) | (refine arl_none rfl rfl (by simp +decide only [aop, abuiltin, aeval, aintBin, bin_int, aload_bump, SS, reduceIte, reduceCtorEq, f107, f106, d1, f105, q1, q3, f12]; exact rfl) rfl rfl ?_) | (refine arl_off rfl rfl ?_) | (refine aw_condT (by simp +decide only [aop, abuiltin, aeval, aintBin, bin_int, aload_bump, SS, reduceIte, reduceCtorEq, f107, f106, d1, f105, q1, q3, f12]; first | done | exact rfl) ?_) | (refine aw_condF (by simp +decide only [aop, abuiltin, aeval, aintBin, bin_int, aload_bump, SS, reduceIte, reduceCtorEq, f107, f106, d1, f105, q1, q3, f12]; first | done | exact rfl) ?_))
        refine arl_call rfl rfl rfl rfl rfl rfl ((rI16_ok (by repeat (first | assumption | (refine WF.bump ?_ _))) (hR.up (by repeat (first | exact Keeps.refl _ _ | (refine Keeps.bumpR ?_ _)))) (by omega) (by omega) hbyA).wf (by repeat (first | assumption | (refine WF.bump ?_ _) | (refine WF.put ?_ (by simp only [n_bump, n_put, n_touch, n_kill] at *; omega) (by simp only [n_bump, n_put, n_touch, n_kill] at *; omega)))) |>.mono ?_)
        rintro r s9 ⟨hw9, hn9, hE9, rfl, hR9⟩
        rw [if_pos (by omega)] at hR9
        rw [if_pos (show 2 ≤ all.length - A.length by omega), hd1, hw16]
        refine ⟨rfl, ?_⟩
        replace hE9 : Keeps (fun g => s6.n ≤ g) sx s9 := Keeps.trans (Keeps.mono (G := fun _ => False) (show Ext sx _ from (by repeat (first | exact Keeps.refl _ _ | (refine Keeps.bumpR ?_ _)))) (fun _ h => h.elim)) hE9
        have hN9 := hE9.n
        repeat (first | (refine aw_seq ?_) | (refine aw_reg0 (by simp only [SZ, Nat.reduceAdd]; exact rfl) ?_) | (refine aw_reg (by decide +kernel) (by simp only [SZ, Nat.reduceAdd]; exact rfl) ?_) | (refine aw_regS (by decide +kernel) (by simp only [SZ, Nat.reduceAdd]; exact rfl) ?_) | (refine arl_nil ?_) | (refine aw_skip ?_) | (refine aw_block ?_) | (refine aw_exit ?_) | (refine aw_ret ?_) | (refine arl_cons rfl rfl (by simp +decide only [aop, abuiltin, aeval, aintBin, bin_int, aload_bump, SS, reduceIte, reduceCtorEq, f12, hcv2, hw64]; exact rfl) (by first | rfl | with_reducible assumption) rfl ?_) | (refine arl_none rfl rfl (by simp +decide only [aop, abuiltin, aeval, aintBin, bin_int, aload_bump, SS, reduceIte, reduceCtorEq, f12, hcv2, hw64]; exact rfl) rfl rfl ?_) | (refine arl_off rfl rfl ?_) | (refine aw_condT (by simp +decide only [aop, abuiltin, aeval, aintBin, bin_int, aload_bump, SS, reduceIte, reduceCtorEq, f12, hcv2, hw64]; first | done | exact rfl) ?_) | (refine aw_condF (by simp +decide only [aop, abuiltin, aeval, aintBin, bin_int, aload_bump, SS, reduceIte, reduceCtorEq, f12, hcv2, hw64]; first | done | exact rfl) ?_))
        refine arl_call rfl rfl rfl rfl rfl rfl ((rtake_ok (by repeat (first | assumption | (refine WF.bump ?_ _))) (hR9.up (by repeat (first | exact Keeps.refl _ _ | (refine Keeps.bumpR ?_ _)))) (b.length : Int) (by omega) (by omega)).wf (by repeat (first | assumption | (refine WF.bump ?_ _) | (refine WF.put ?_ (by simp only [n_bump, n_put, n_touch, n_kill] at *; omega) (by simp only [n_bump, n_put, n_touch, n_kill] at *; omega)))) |>.mono ?_)
        rintro r s10 ⟨hw10, hn10, hE10, y, rfl, hys, hY, hR10⟩
        refine ⟨rfl, ?_⟩
        replace hE10 : Keeps (fun g => s6.n ≤ g) s9 s10 := Keeps.trans (Keeps.mono (G := fun _ => False) (show Ext s9 _ from (by repeat (first | exact Keeps.refl _ _ | (refine Keeps.bumpR ?_ _)))) (fun _ h => h.elim)) hE10
        have hN10 := hE10.n
        rw [if_pos ⟨by omega, by omega⟩] at hY hR10
        rw [hd2] at hY
        rw [if_neg (show ¬ (b.length : Int) < 0 by omega), if_neg (show ¬ (b.length : Int) > (all.length : Int) - ((A.length + 2 : Nat) : Int) by omega)]
        have hly := hY.rd.len
        repeat (first | (refine aw_seq ?_) | (refine aw_reg0 (by simp only [SZ, Nat.reduceAdd]; exact rfl) ?_) | (refine aw_reg (by decide +kernel) (by simp only [SZ, Nat.reduceAdd]; exact rfl) ?_) | (refine aw_regS (by decide +kernel) (by simp only [SZ, Nat.reduceAdd]; exact rfl) ?_) | (refine arl_nil ?_) | (refine aw_skip ?_) | (refine aw_block ?_) | (refine aw_exit ?_) | (refine aw_ret ?_) | (refine arl_cons rfl rfl (by simp +decide only [aop, abuiltin, aeval, aintBin, bin_int, aload_bump, SS, reduceIte, reduceCtorEq]; exact rfl) (by first | rfl | with_reducible assumption) rfl ?_) | (refine arl_none rfl rfl (by simp +decide only [aop, abuiltin, aeval, aintBin, bin_int, aload_bump, SS, reduceIte, reduceCtorEq]; exact rfl) rfl rfl ?_) | (refine arl_off rfl rfl ?_) | (refine aw_condT (by simp +decide only [aop, abuiltin, aeval, aintBin, bin_int, aload_bump, SS, reduceIte, reduceCtorEq]; first | done | exact rfl) ?_) | (refine aw_condF (by simp +decide only [aop, abuiltin, aeval, aintBin, bin_int, aload_bump, SS, reduceIte, reduceCtorEq]; first | done | exact rfl) ?_))
        refine arl_call rfl rfl rfl rfl rfl rfl ((vGet_ok (by repeat (first | assumption | (refine WF.bump ?_ _))) 0 (hY.rd.up (by repeat (first | exact Keeps.refl _ _ | (refine Keeps.bumpR ?_ _)))) (by omega) hvb).wf (by repeat (first | assumption | (refine WF.bump ?_ _) | (refine WF.put ?_ (by simp only [n_bump, n_put, n_touch, n_kill] at *; omega) (by simp only [n_bump, n_put, n_touch, n_kill] at *; omega)))) |>.mono ?_)
        rintro r s11 ⟨hw11, hn11, hE11, rfl⟩
        refine ⟨by first | rfl | with_reducible assumption, ?_⟩
        replace hE11 : Ext s10 s11 := Keeps.trans (by repeat (first | assumption | exact Keeps.refl _ _ | (refine Keeps.bumpR ?_ _) | (refine Keeps.put ?_ (by assumption) (by simp only [n_bump, n_put, n_touch, n_kill] at *; omega)))) hE11
        have hN11 := hE11.n
        have hgv2 : getV b 0 = .tup [i64 x, i64 b.length, i64 0] := by
          unfold getV
          rw [hgv, zag_zig]
        rw [hgv2]
        have hxx : (x != x) = false := by simp
        have hll : ((b.length : Int) != (b.length : Int)) = false := by simp
        repeat (first | (refine aw_seq ?_) | (refine aw_reg0 (by simp only [SZ, Nat.reduceAdd]; exact rfl) ?_) | (refine aw_reg (by decide +kernel) (by simp only [SZ, Nat.reduceAdd]; exact rfl) ?_) | (refine aw_regS (by decide +kernel) (by simp only [SZ, Nat.reduceAdd]; exact rfl) ?_) | (refine arl_nil ?_) | (refine aw_skip ?_) | (refine aw_block ?_) | (refine aw_exit ?_) | (refine aw_ret ?_) | (refine arl_cons rfl rfl (by simp +decide only [aop, abuiltin, aeval, aintBin, bin_int, aload_bump, SS, reduceIte, reduceCtorEq, hxx, hly, hll, f107, hwk]; exact rfl) (by first | rfl | with_reducible assumption) rfl ?_) | (refine arl_none rfl rfl (by simp +decide only [aop, abuiltin, aeval, aintBin, bin_int, aload_bump, SS, reduceIte, reduceCtorEq, hxx, hly, hll, f107, hwk]; exact rfl) rfl rfl ?_) | (refine arl_off rfl rfl ?_) | (refine aw_condT (by simp +decide only [aop, abuiltin, aeval, aintBin, bin_int, aload_bump, SS, reduceIte, reduceCtorEq, hxx, hly, hll, f107, hwk]; first | done | exact rfl) ?_) | (refine aw_condF (by simp +decide only [aop, abuiltin, aeval, aintBin, bin_int, aload_bump, SS, reduceIte, reduceCtorEq, hxx, hly, hll, f107, hwk]; first | done | exact rfl) ?_))
        have hN11 := hE11.n
        refine ⟨vs.length - (k + 1), by omega, ((Keeps.call hE (hE9.trans hE10) hw (fun g hg => .inr (by omega))).trans hE11).trans (by repeat (first | exact Keeps.refl _ _ | (refine Keeps.bumpR ?_ _))), by simp only [n_bump]; omega, k + 1, by omega, rfl, f1, f12, f105, f106, rfl, ?_⟩
        rw [hlen]
        have : A.length + 2 + (b.length : Int).toNat = A.length + 2 + b.length := by omega
        rw [this] at hR10
        exact ((hR10.up hE11).mono (fun g hg => hg.1)).up (by repeat (first | exact Keeps.refl _ _ | (refine Keeps.bumpR ?_ _)))
      · have d1 : decide ((k : Int) < (vs.length : Int)) = false := decide_eq_false (by omega)
        obtain rfl : k = vs.length := by omega
        rw [List.take_length] at hR
        repeat (first | (refine aw_seq ?_) | (refine aw_reg0 (by simp only [SZ, Nat.reduceAdd]; exact rfl) ?_) | (refine aw_reg (by decide +kernel) (by simp only [SZ, Nat.reduceAdd]; exact rfl) ?_) | (refine aw_regS (by decide +kernel) (by simp only [SZ, Nat.reduceAdd]; exact rfl) ?_) | (refine arl_nil ?_) | (refine aw_skip ?_) | (refine aw_block ?_) | (refine aw_exit ?_) | (refine aw_ret ?_) | (refine arl_cons rfl rfl (by simp +decide only [aop, abuiltin, aeval, aintBin, bin_int, aload_bump, SS, reduceIte, reduceCtorEq, f107, f106, d1]; exact rfl) (by first | rfl | with_reducible assumption) rfl ?_) | (refine arl_none rfl rfl (by simp +decide only [aop, abuiltin, aeval, aintBin, bin_int, aload_bump, SS, reduceIte, reduceCtorEq, f107, f106, d1]; exact rfl) rfl rfl ?_) | (refine arl_off rfl rfl ?_) | (refine aw_condT (by simp +decide only [aop, abuiltin, aeval, aintBin, bin_int, aload_bump, SS, reduceIte, reduceCtorEq, f107, f106, d1]; first | done | exact rfl) ?_) | (refine aw_condF (by simp +decide only [aop, abuiltin, aeval, aintBin, bin_int, aload_bump, SS, reduceIte, reduceCtorEq, f107, f106, d1]; first | done | exact rfl) ?_))
        exact ⟨rfl, hE.trans (by repeat (first | exact Keeps.refl _ _ | (refine Keeps.bumpR ?_ _))), by simp only [n_bump]; omega, f1, f12, hR.up (by repeat (first | exact Keeps.refl _ _ | (refine Keeps.bumpR ?_ _)))⟩
    · refine ⟨hT8.trans (by repeat (first | exact Keeps.refl _ _ | (refine Keeps.bumpR ?_ _))), by simp only [n_bump]; omega, 0, by omega, rfl, f1, rfl, rfl, rfl, rfl, ?_⟩
      rw [show (rowsN (vs.take 0)).length = 2 from by simp [rowsN, bes_len]]
      exact hR8.up (by repeat (first | exact Keeps.refl _ _ | (refine Keeps.bumpR ?_ _)))
    rintro e fr s9 ⟨hw9, hn9, rfl, hE9, hsn, f1, f12, hR⟩
    have hdt : (all.drop (rowsN vs).length).take (tail.length : Int).toNat = tail := by
      rw [← hall, List.drop_left, Int.toNat_natCast, List.take_length]
    have ht9 := ht.up hE9
    repeat (first | (refine aw_seq ?_) | (refine aw_reg0 (by simp only [SZ, Nat.reduceAdd]; exact rfl) ?_) | (refine aw_reg (by decide +kernel) (by simp only [SZ, Nat.reduceAdd]; exact rfl) ?_) | (refine aw_regS (by decide +kernel) (by simp only [SZ, Nat.reduceAdd]; exact rfl) ?_) | (refine arl_nil ?_) | (refine aw_skip ?_) | (refine aw_block ?_) | (refine aw_exit ?_) | (refine aw_ret ?_) | (refine arl_cons rfl rfl (by simp +decide only [aop, abuiltin, aeval, aintBin, bin_int, aload_bump, SS, reduceIte, reduceCtorEq, f12, f1, hlt']; exact rfl) (by first | rfl | with_reducible assumption) rfl ?_) | (refine arl_none rfl rfl (by simp +decide only [aop, abuiltin, aeval, aintBin, bin_int, aload_bump, SS, reduceIte, reduceCtorEq, f12, f1, hlt']; exact rfl) rfl rfl ?_) | (refine arl_off rfl rfl ?_) | (refine aw_condT (by simp +decide only [aop, abuiltin, aeval, aintBin, bin_int, aload_bump, SS, reduceIte, reduceCtorEq, f12, f1, hlt']; first | done | exact rfl) ?_) | (refine aw_condF (by simp +decide only [aop, abuiltin, aeval, aintBin, bin_int, aload_bump, SS, reduceIte, reduceCtorEq, f12, f1, hlt']; first | done | exact rfl) ?_))
    refine arl_call rfl rfl rfl rfl rfl rfl ((rtake_ok (by repeat (first | assumption | (refine WF.bump ?_ _))) (hR.up (by repeat (first | exact Keeps.refl _ _ | (refine Keeps.bumpR ?_ _)))) (tail.length : Int) (by omega) (by omega)).wf (by repeat (first | assumption | (refine WF.bump ?_ _) | (refine WF.put ?_ (by simp only [n_bump, n_put, n_touch, n_kill] at *; omega) (by simp only [n_bump, n_put, n_touch, n_kill] at *; omega)))) |>.mono ?_)
    rintro r s10 ⟨hw10, hn10, hE10, y, rfl, hys, hY, hR10⟩
    refine ⟨rfl, ?_⟩
    replace hE10 : Keeps (fun g => s6.n ≤ g) s9 s10 := Keeps.trans (Keeps.mono (G := fun _ => False) (show Ext s9 _ from (by repeat (first | exact Keeps.refl _ _ | (refine Keeps.bumpR ?_ _)))) (fun _ h => h.elim)) hE10
    rw [if_pos ⟨by omega, by omega⟩] at hY hR10
    rw [hdt] at hY
    rw [if_neg (show ¬ (tail.length : Int) < 0 by omega), if_neg (show ¬ (tail.length : Int) > (all.length : Int) - ((rowsN vs).length : Int) by omega)]
    have ht10 := ht9.keep hE10 (fun g hg h => by have := hg.2; omega)
    repeat (first | (refine aw_seq ?_) | (refine aw_reg0 (by simp only [SZ, Nat.reduceAdd]; exact rfl) ?_) | (refine aw_reg (by decide +kernel) (by simp only [SZ, Nat.reduceAdd]; exact rfl) ?_) | (refine aw_regS (by decide +kernel) (by simp only [SZ, Nat.reduceAdd]; exact rfl) ?_) | (refine arl_nil ?_) | (refine aw_skip ?_) | (refine aw_block ?_) | (refine aw_exit ?_) | (refine aw_ret ?_) | (refine arl_cons rfl rfl (by simp +decide only [aop, abuiltin, aeval, aintBin, bin_int, aload_bump, SS, reduceIte, reduceCtorEq, f12]; exact rfl) (by first | rfl | with_reducible assumption) rfl ?_) | (refine arl_none rfl rfl (by simp +decide only [aop, abuiltin, aeval, aintBin, bin_int, aload_bump, SS, reduceIte, reduceCtorEq, f12]; exact rfl) rfl rfl ?_) | (refine arl_off rfl rfl ?_) | (refine aw_condT (by simp +decide only [aop, abuiltin, aeval, aintBin, bin_int, aload_bump, SS, reduceIte, reduceCtorEq, f12]; first | done | exact rfl) ?_) | (refine aw_condF (by simp +decide only [aop, abuiltin, aeval, aintBin, bin_int, aload_bump, SS, reduceIte, reduceCtorEq, f12]; first | done | exact rfl) ?_))
    refine arl_call rfl rfl rfl rfl rfl rfl ((rend_ok (hR10.up (by repeat (first | exact Keeps.refl _ _ | (refine Keeps.bumpR ?_ _))))).wf (by repeat (first | assumption | (refine WF.bump ?_ _) | (refine WF.put ?_ (by simp only [n_bump, n_put, n_touch, n_kill] at *; omega) (by simp only [n_bump, n_put, n_touch, n_kill] at *; omega)))) |>.mono ?_)
    rintro r s11 ⟨hw11, hn11, hE11, rfl⟩
    refine ⟨by first | rfl | with_reducible assumption, ?_⟩
    replace hE11 : Ext s10 s11 := Keeps.trans (by repeat (first | assumption | exact Keeps.refl _ _ | (refine Keeps.bumpR ?_ _) | (refine Keeps.put ?_ (by assumption) (by simp only [n_bump, n_put, n_touch, n_kill] at *; omega)))) hE11
    have hN11 := hE11.n
    rw [if_neg (show ¬ (rowsN vs).length + (tail.length : Int).toNat < all.length by omega)]
    repeat (first | (refine aw_seq ?_) | (refine aw_reg0 (by simp only [SZ, Nat.reduceAdd]; exact rfl) ?_) | (refine aw_reg (by decide +kernel) (by simp only [SZ, Nat.reduceAdd]; exact rfl) ?_) | (refine aw_regS (by decide +kernel) (by simp only [SZ, Nat.reduceAdd]; exact rfl) ?_) | (refine arl_nil ?_) | (refine aw_skip ?_) | (refine aw_block ?_) | (refine aw_exit ?_) | (refine aw_ret ?_) | (refine arl_cons rfl rfl (by simp +decide only [aop, abuiltin, aeval, aintBin, bin_int, aload_bump, SS, reduceIte, reduceCtorEq, f1]; exact rfl) (by first | rfl | with_reducible assumption) rfl ?_) | (refine arl_none rfl rfl (by simp +decide only [aop, abuiltin, aeval, aintBin, bin_int, aload_bump, SS, reduceIte, reduceCtorEq, f1]; exact rfl) rfl rfl ?_) | (refine arl_off rfl rfl ?_) | (refine aw_condT (by simp +decide only [aop, abuiltin, aeval, aintBin, bin_int, aload_bump, SS, reduceIte, reduceCtorEq, f1]; first | done | exact rfl) ?_) | (refine aw_condF (by simp +decide only [aop, abuiltin, aeval, aintBin, bin_int, aload_bump, SS, reduceIte, reduceCtorEq, f1]; first | done | exact rfl) ?_))
    refine arl_call rfl rfl rfl rfl rfl rfl ((same_self (by repeat (first | assumption | (refine WF.bump ?_ _))) ((hY.rd.up hE11).up (by repeat (first | exact Keeps.refl _ _ | (refine Keeps.bumpR ?_ _)))) ((ht10.up hE11).up (by repeat (first | exact Keeps.refl _ _ | (refine Keeps.bumpR ?_ _)))) (by omega)).wf (by repeat (first | assumption | (refine WF.bump ?_ _) | (refine WF.put ?_ (by simp only [n_bump, n_put, n_touch, n_kill] at *; omega) (by simp only [n_bump, n_put, n_touch, n_kill] at *; omega)))) |>.mono ?_)
    rintro r s12 ⟨hw12, hn12, hE12, rfl⟩
    refine ⟨by first | rfl | with_reducible assumption, ?_⟩
    replace hE12 : Ext s11 s12 := Keeps.trans (by repeat (first | assumption | exact Keeps.refl _ _ | (refine Keeps.bumpR ?_ _) | (refine Keeps.put ?_ (by assumption) (by simp only [n_bump, n_put, n_touch, n_kill] at *; omega)))) hE12
    have hN12 := hE12.n
    repeat (first | (refine aw_seq ?_) | (refine aw_reg0 (by simp only [SZ, Nat.reduceAdd]; exact rfl) ?_) | (refine aw_reg (by decide +kernel) (by simp only [SZ, Nat.reduceAdd]; exact rfl) ?_) | (refine aw_regS (by decide +kernel) (by simp only [SZ, Nat.reduceAdd]; exact rfl) ?_) | (refine arl_nil ?_) | (refine aw_skip ?_) | (refine aw_block ?_) | (refine aw_exit ?_) | (refine aw_ret ?_) | (refine arl_cons rfl rfl (by simp +decide only [aop, abuiltin, aeval, aintBin, bin_int, aload_bump, SS, reduceIte, reduceCtorEq]; exact rfl) (by first | rfl | with_reducible assumption) rfl ?_) | (refine arl_none rfl rfl (by simp +decide only [aop, abuiltin, aeval, aintBin, bin_int, aload_bump, SS, reduceIte, reduceCtorEq]; exact rfl) rfl rfl ?_) | (refine arl_off rfl rfl ?_) | (refine aw_condT (by simp +decide only [aop, abuiltin, aeval, aintBin, bin_int, aload_bump, SS, reduceIte, reduceCtorEq]; first | done | exact rfl) ?_) | (refine aw_condF (by simp +decide only [aop, abuiltin, aeval, aintBin, bin_int, aload_bump, SS, reduceIte, reduceCtorEq]; first | done | exact rfl) ?_))
    exact ⟨.inr rfl, _, rfl, rfl⟩
  · exact ⟨.inr rfl, _, rfl, f4⟩
theorem WholeNumbers_small {st : St} (hw : WF st) {v : AV} {vs : List Int} (h0 : RdL st (fun _ => True) 1 (fun cs n => cs = [.pl (.int .i64 n)]) v vs) (g0 : ∀ x ∈ vs, (Lit.int .i64 x).wf = true) {u : AV} {b : List Int} (h1 : RdL st (fun _ => True) 1 (fun cs n => cs = [.pl (.int .u8 n)]) u b) (g1 : ∀ x ∈ b, (Lit.int .u8 x).wf = true) (hb : (vs.map fun _ => 1).sum + 1 + ((b.map fun _ => 1).sum + 1) ≤ 1048576) :
    ACalls Try.prog 3 [v, u] st (fun r s => r = .pl (.bool true)) := by
  rw [sum_1, sum_1] at hb
  exact numbers_ok hw h0 (RdL.bytes h1) (by omega) (fun x hx => wfi64 (g0 x hx)) (fun x hx => wfu8 (g1 x hx))
end Go.Proofs.Ytinjlhhhahllhaa.Ra
