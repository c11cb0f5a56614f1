/- crc.Link, by names: a matrix of registers. -/
import Derived.Test.YtjpgpkkbmoehdaaDoorZc
import Derived.Test.YtjpgpkkbmoehdaaDoorRt
namespace Go.Proofs.YtjpgpkkbmoehdaaDoor.Ra
open Go Go.RowKit Cm
set_option linter.unusedVariables false
set_option linter.unusedSimpArgs false
set_option maxRecDepth 10000
/-- The matrix that makes m steps. -/
def mat (m : Nat) : List AV := (List.range 32).map fun i => v32 (num (steps m (1#32 <<< i)))
theorem mat_len (m : Nat) : (mat m).length = 32 := by simp [mat]
theorem mat_at (m i : Nat) (h : i < 32) : (mat m)[i]? = some (v32 (num (steps m (1#32 <<< i)))) := by simp [mat, h]
theorem mat_one (m : Nat) : (mat m).all AV.one = true := by
  unfold mat
  rw [List.all_eq_true]
  intro x hx
  obtain ⟨i, _, rfl⟩ := List.mem_map.1 hx
  rfl
abbrev MT : TypeId := 52
theorem szMT : szOf Tryd.prog MT = some 32 := by kernel_rfl
theorem zMT : zcells Tryd.prog MT = some (List.replicate 32 (v32 0)) := by kernel_rfl
theorem uMT : Tryd.prog.underlying MT = some (.array 32 26) := Tryd.underlying52
theorem szU : szOf Tryd.prog 26 = some 1 := by kernel_rfl
theorem idxM (c i : Nat) (h : i < 32) : aindexAddr Tryd.prog MT (.ptr c 0) (i64 i) = some (.ptr c i) := by
  simp only [aindexAddr, uMT, szU]
  rw [if_pos ⟨by omega, by omega⟩]
  simp
theorem num_zero : num 0#32 = 0 := rfl
theorem bit_and (s : BitVec 32) : bits .and .u32 (num s) 1 = if s.getLsbD 0 then 1 else 0 := by
  rw [ba, ofInt_num, show BitVec.ofInt 32 1 = 1#32 from rfl]
  have : s &&& 1#32 = if s.getLsbD 0 then 1#32 else 0#32 := by
    apply BitVec.eq_of_getLsbD_eq
    intro i hi
    rw [BitVec.getLsbD_and]
    by_cases h0 : i = 0
    · subst h0; cases h : s.getLsbD 0 <;> simp [h]
    · have : (1#32).getLsbD i = false := by simp [BitVec.getLsbD_one]; omega
      rw [this]
      cases s.getLsbD 0 <;> simp [this]
  rw [this]
  cases s.getLsbD 0 <;> rfl
theorem shr1 (s : BitVec 32) : (num s).fdiv (2 ^ min (1 : Int).toNat IntKind.u32.bits) = num (s >>> 1) := by
  rw [show (2 : Int) ^ min (1 : Int).toNat IntKind.u32.bits = 2 ^ 1 from rfl, Int.fdiv_eq_ediv_of_nonneg _ (by decide)]
  exact div_num s 1
theorem low_split (s : BitVec 32) (i : Nat) : (s >>> i) <<< i = ((s >>> (i + 1)) <<< (i + 1)) ^^^ (if (s >>> i).getLsbD 0 then 1#32 <<< i else 0#32) := by
  apply BitVec.eq_of_getLsbD_eq
  intro j hj
  rw [BitVec.getLsbD_xor, BitVec.getLsbD_shiftLeft, BitVec.getLsbD_shiftLeft, BitVec.getLsbD_ushiftRight, BitVec.getLsbD_ushiftRight, BitVec.getLsbD_ushiftRight]
  by_cases c1 : j < i
  · have c2 : j < i + 1 := by omega
    cases s.getLsbD (i + 0) <;> simp [c1, c2, hj, BitVec.getLsbD_shiftLeft]
  · by_cases c3 : j = i
    · subst c3
      cases h4 : s.getLsbD (j + 0) <;> simp [hj] <;> (rw [← BitVec.getLsbD_eq_getElem]; simpa using h4)
    · have c2 : ¬ j < i + 1 := by omega
      have c4 : i + 1 + (j - (i + 1)) = i + (j - i) := by omega
      have c5 : ¬ j - i = 0 := by omega
      cases s.getLsbD (i + 0) <;> simp [c1, c2, hj, c4, BitVec.getLsbD_shiftLeft, BitVec.getLsbD_one, c5]
theorem shr_shr (s : BitVec 32) (i : Nat) : (s >>> i) >>> 1 = s >>> (i + 1) := by rw [← BitVec.shiftRight_add]
theorem shr_32 (s : BitVec 32) : s >>> 32 = 0#32 := by
  apply BitVec.eq_of_getLsbD_eq
  intro j hj
  rw [BitVec.getLsbD_ushiftRight, BitVec.getLsbD_of_ge _ _ (by omega)]
  simp
theorem shl_0 (i : Nat) : (0#32 : BitVec 32) <<< i = 0#32 := by simp
theorem loadM {st : St} {c g m : Nat} (h : st.get c = some ⟨mat m, MT, true, g⟩) (i : Nat) (hi : i < 32) : aload Tryd.prog st 26 (.ptr c i) = some (v32 (num (steps m (1#32 <<< i)))) :=
  load_at Tryd.underlying26 rfl szU h (mat_at m i hi)
set_option maxHeartbeats 1000000 in
theorem of_ok {st : St} (hw : WF st) {c g m : Nat} (s : BitVec 32) (h : st.get c = some ⟨mat m, MT, true, g⟩) :
    ACalls Tryd.prog 22 [.ptr c 0, v32 (num s)] st (fun r s' => Ext st s' ∧ r = v32 (num (steps m s))) := by
  refine acalls_of Tryd.func22 rfl (by kernel_rfl) rfl ?_
  repeat (first | (refine aw_seq ?_) | (refine aw_reg0 (by simp only [SZ, Nat.reduceAdd]; exact rfl) ?_) | (refine aw_reg (by decide +kernel) (by simp only [SZ, Nat.reduceAdd]; exact rfl) ?_) | (refine aw_regS (by decide +kernel) (by simp only [SZ, Nat.reduceAdd]; exact rfl) ?_) | (refine aw_regN (by decide +kernel) (by simp only [SZ, Nat.reduceAdd]; exact rfl) (by repeat (first | assumption | (refine WF.bump ?_ _))) ?_) | (refine arl_nil ?_) | (refine aw_skip ?_) | (refine aw_block ?_) | (refine aw_exit ?_) | (refine aw_ret ?_) | (refine arl_cons rfl rfl (by simp +decide only [aop, abuiltin, aeval, aintBin, bin_int, aload_bump, SS, reduceIte, reduceCtorEq]; exact rfl) (by first | rfl | with_reducible assumption) rfl ?_) | (refine arl_none rfl rfl (by simp +decide only [aop, abuiltin, aeval, aintBin, bin_int, aload_bump, SS, reduceIte, reduceCtorEq]; exact rfl) rfl rfl ?_) | (refine arl_off rfl rfl ?_) | (refine aw_condT (by simp +decide only [aop, abuiltin, aeval, aintBin, bin_int, aload_bump, SS, reduceIte, reduceCtorEq]; first | done | exact rfl) ?_) | (refine aw_condF (by simp +decide only [aop, abuiltin, aeval, aintBin, bin_int, aload_bump, SS, reduceIte, reduceCtorEq]; first | done | exact rfl) ?_))
  refine aw_rounds_wf (fun n fr sx => Ext st sx ∧ ∃ (i : Nat) (out : BitVec 32), i ≤ 32 ∧ n = 32 - i ∧ fr 0 = .ptr c 0 ∧ fr 1 = v32 (num (s >>> i)) ∧ fr 5 = v32 (num out) ∧ fr 6 = i64 i ∧ out ^^^ steps m ((s >>> i) <<< i) = steps m s) ?_ 32 _ _ (by repeat (first | assumption | (refine WF.bump ?_ _))) ?_
  · rintro n fr sx hws ⟨hE, i, out, hi, rfl, f0, f1, f5, f6, hout⟩
    obtain ⟨x, hx⟩ : ∃ x, s >>> i = x := ⟨_, rfl⟩
    have hsp := low_split s i
    have hss := shr_shr s i
    rw [hx] at f1 hout hsp hss
    by_cases h0 : num x = 0
    · have hd : (num x != 0) = false := by rw [h0]; rfl
      have hx0 : x = 0#32 := num_inj (by rw [h0, num_zero])
      subst hx0
      rw [shl_0, steps_zero, BitVec.xor_zero] at hout
      repeat (first | (refine aw_seq ?_) | (refine aw_reg0 (by simp only [SZ, Nat.reduceAdd]; exact rfl) ?_) | (refine aw_reg (by decide +kernel) (by simp only [SZ, Nat.reduceAdd]; exact rfl) ?_) | (refine aw_regS (by decide +kernel) (by simp only [SZ, Nat.reduceAdd]; exact rfl) ?_) | (refine aw_regN (by decide +kernel) (by simp only [SZ, Nat.reduceAdd]; exact rfl) (by repeat (first | assumption | (refine WF.bump ?_ _))) ?_) | (refine arl_nil ?_) | (refine aw_skip ?_) | (refine aw_block ?_) | (refine aw_exit ?_) | (refine aw_ret ?_) | (refine arl_cons rfl rfl (by simp +decide only [aop, abuiltin, aeval, aintBin, bin_int, aload_bump, SS, reduceIte, reduceCtorEq, f1, hd, f5]; exact rfl) (by first | rfl | with_reducible assumption) rfl ?_) | (refine arl_none rfl rfl (by simp +decide only [aop, abuiltin, aeval, aintBin, bin_int, aload_bump, SS, reduceIte, reduceCtorEq, f1, hd, f5]; exact rfl) rfl rfl ?_) | (refine arl_off rfl rfl ?_) | (refine aw_condT (by simp +decide only [aop, abuiltin, aeval, aintBin, bin_int, aload_bump, SS, reduceIte, reduceCtorEq, f1, hd, f5]; first | done | exact rfl) ?_) | (refine aw_condF (by simp +decide only [aop, abuiltin, aeval, aintBin, bin_int, aload_bump, SS, reduceIte, reduceCtorEq, f1, hd, f5]; first | done | exact rfl) ?_))
      rw [hout]
      exact ⟨.inr rfl, _, rfl, hE.trans (by repeat (first | exact Keeps.refl _ _ | (refine Keeps.bumpR ?_ _))), rfl⟩
    · have hd : (num x != 0) = true := by simp [h0]
      have hlt : i < 32 := by
        rcases Nat.lt_or_ge i 32 with h | h
        · exact h
        · obtain rfl : i = 32 := by omega
          rw [shr_32] at hx
          exact absurd (by rw [← hx]; rfl) h0
      have hb := bit_and x
      have hs1 := shr1 x
      rw [hss] at hs1
      have hwk := wrap_succ (k := i) (by omega)
      rw [hsp, steps_xor] at hout
      cases hbit : x.getLsbD 0
      · rw [hbit] at hb hout
        simp only [Bool.false_eq_true, if_false] at hb hout
        have hd2 : ((0 : Int) != 0) = false := rfl
        repeat (first | (refine aw_seq ?_) | (refine aw_reg0 (by simp only [SZ, Nat.reduceAdd]; exact rfl) ?_) | (refine aw_reg (by decide +kernel) (by simp only [SZ, Nat.reduceAdd]; exact rfl) ?_) | (refine aw_regS (by decide +kernel) (by simp only [SZ, Nat.reduceAdd]; exact rfl) ?_) | (refine aw_regN (by decide +kernel) (by simp only [SZ, Nat.reduceAdd]; exact rfl) (by repeat (first | assumption | (refine WF.bump ?_ _))) ?_) | (refine arl_nil ?_) | (refine aw_skip ?_) | (refine aw_block ?_) | (refine aw_exit ?_) | (refine aw_ret ?_) | (refine arl_cons rfl rfl (by simp +decide only [aop, abuiltin, aeval, aintBin, bin_int, aload_bump, SS, reduceIte, reduceCtorEq, f1, hd, hb, hd2, hs1, f6, hwk]; exact rfl) (by first | rfl | with_reducible assumption) rfl ?_) | (refine arl_none rfl rfl (by simp +decide only [aop, abuiltin, aeval, aintBin, bin_int, aload_bump, SS, reduceIte, reduceCtorEq, f1, hd, hb, hd2, hs1, f6, hwk]; exact rfl) rfl rfl ?_) | (refine arl_off rfl rfl ?_) | (refine aw_condT (by simp +decide only [aop, abuiltin, aeval, aintBin, bin_int, aload_bump, SS, reduceIte, reduceCtorEq, f1, hd, hb, hd2, hs1, f6, hwk]; first | done | exact rfl) ?_) | (refine aw_condF (by simp +decide only [aop, abuiltin, aeval, aintBin, bin_int, aload_bump, SS, reduceIte, reduceCtorEq, f1, hd, hb, hd2, hs1, f6, hwk]; first | done | exact rfl) ?_))
        refine ⟨32 - (i + 1), by omega, hE.trans (by repeat (first | exact Keeps.refl _ _ | (refine Keeps.bumpR ?_ _))), i + 1, out, by omega, rfl, f0, rfl, f5, rfl, ?_⟩
        rw [steps_zero, BitVec.xor_zero] at hout
        exact hout
      · rw [hbit] at hb hout
        simp only [if_true] at hb hout
        have hd2 : ((1 : Int) != 0) = true := rfl
        have hix := idxM c i hlt
        have hld := loadM (hE.get _ _ h (fun h => h)) i hlt
        have hxo := xor_num out (steps m (1#32 <<< i))
        repeat (first | (refine aw_seq ?_) | (refine aw_reg0 (by simp only [SZ, Nat.reduceAdd]; exact rfl) ?_) | (refine aw_reg (by decide +kernel) (by simp only [SZ, Nat.reduceAdd]; exact rfl) ?_) | (refine aw_regS (by decide +kernel) (by simp only [SZ, Nat.reduceAdd]; exact rfl) ?_) | (refine aw_regN (by decide +kernel) (by simp only [SZ, Nat.reduceAdd]; exact rfl) (by repeat (first | assumption | (refine WF.bump ?_ _))) ?_) | (refine arl_nil ?_) | (refine aw_skip ?_) | (refine aw_block ?_) | (refine aw_exit ?_) | (refine aw_ret ?_) | (refine arl_cons rfl rfl (by simp +decide only [aop, abuiltin, aeval, aintBin, bin_int, aload_bump, SS, reduceIte, reduceCtorEq, f1, hd, hb, hd2, hs1, f6, hwk, f0, f5, hix, hld, hxo]; exact rfl) (by first | rfl | with_reducible assumption) rfl ?_) | (refine arl_none rfl rfl (by simp +decide only [aop, abuiltin, aeval, aintBin, bin_int, aload_bump, SS, reduceIte, reduceCtorEq, f1, hd, hb, hd2, hs1, f6, hwk, f0, f5, hix, hld, hxo]; exact rfl) rfl rfl ?_) | (refine arl_off rfl rfl ?_) | (refine aw_condT (by simp +decide only [aop, abuiltin, aeval, aintBin, bin_int, aload_bump, SS, reduceIte, reduceCtorEq, f1, hd, hb, hd2, hs1, f6, hwk, f0, f5, hix, hld, hxo]; first | done | exact rfl) ?_) | (refine aw_condF (by simp +decide only [aop, abuiltin, aeval, aintBin, bin_int, aload_bump, SS, reduceIte, reduceCtorEq, f1, hd, hb, hd2, hs1, f6, hwk, f0, f5, hix, hld, hxo]; first | done | exact rfl) ?_))
        refine ⟨32 - (i + 1), by omega, hE.trans (by repeat (first | exact Keeps.refl _ _ | (refine Keeps.bumpR ?_ _))), i + 1, out ^^^ steps m (1#32 <<< i), by omega, rfl, f0, rfl, rfl, rfl, ?_⟩
        rw [← hout, BitVec.xor_assoc, BitVec.xor_comm (steps m (1#32 <<< i))]
  · exact ⟨(by repeat (first | exact Keeps.refl _ _ | (refine Keeps.bumpR ?_ _))), 0, 0#32, by omega, rfl, rfl, by simp; rfl, rfl, rfl, by simp⟩
/-- The first i cells are those of m steps, the others are as they were laid. -/
def part (m i : Nat) : List AV := (mat m).take i ++ List.replicate (32 - i) (v32 0)
theorem part_len (m i : Nat) (h : i ≤ 32) : (part m i).length = 32 := by simp [part, mat_len]; omega
theorem part_0 (m : Nat) : part m 0 = List.replicate 32 (v32 0) := by simp [part]
theorem part_32 (m : Nat) : part m 32 = mat m := by
  unfold part
  rw [List.take_of_length_le (by rw [mat_len]; exact Nat.le_refl _)]
  simp
theorem part_set (m i : Nat) (h : i < 32) : (part m i).set i (v32 (num (steps m (1#32 <<< i)))) = part m (i + 1) := by
  have hl : ((mat m).take i).length = i := by rw [List.length_take, mat_len]; omega
  have e : (mat m).take (i + 1) = (mat m).take i ++ [v32 (num (steps m (1#32 <<< i)))] := by
    rw [List.take_add_one, mat_at m i h]
    rfl
  unfold part
  rw [List.set_append_right _ _ (by omega), hl, Nat.sub_self, e, List.append_assoc]
  obtain ⟨k, hk⟩ : ∃ k, 32 - i = k + 1 := ⟨32 - i - 1, by omega⟩
  have hk2 : 32 - (i + 1) = k := by omega
  rw [hk, hk2, List.replicate_succ]
  rfl
theorem part_one (m i : Nat) : (part m i).all AV.one = true := by
  unfold part
  rw [List.all_append, Bool.and_eq_true]
  refine ⟨List.all_eq_true.2 fun x hx => List.all_eq_true.1 (mat_one m) x (List.mem_of_mem_take hx), ?_⟩
  simp
  exact .inr rfl
theorem aresM {st : St} {fn : Func} {fr : AFr} {p q : Nat} {x : AV} (hr : fn.results = #[.cell p q]) (h : aload Tryd.prog st q (fr p) = some x) : aresults Tryd.prog st fn fr = some x := by
  simp [aresults, hr, aresult, h]
theorem loadMM {st : St} {c g m : Nat} (h : st.get c = some ⟨mat m, MT, true, g⟩) : aload Tryd.prog st MT (.ptr c 0) = some (.agg (mat m)) := by
  have := load_agg (st := st) (off := 0) uMT rfl szMT h (by rw [mat_len]; decide)
  rw [this, List.drop_zero, List.take_of_length_le (by rw [mat_len]; exact Nat.le_refl _)]
set_option maxHeartbeats 1000000 in
theorem squared_ok {st : St} (hw : WF st) {c g m : Nat} (h : st.get c = some ⟨mat m, MT, true, g⟩) :
    ACalls Tryd.prog 23 [.ptr c 0] st (fun r s' => Ext st s' ∧ r = .agg (mat (m + m))) := by
  refine acalls_of Tryd.func23 rfl (by kernel_rfl) rfl ?_
  repeat (first | (refine aw_seq ?_) | (refine aw_reg0 (by simp only [SZ, Nat.reduceAdd]; exact rfl) ?_) | (refine aw_reg (by decide +kernel) (by simp only [SZ, Nat.reduceAdd]; exact rfl) ?_) | (refine aw_regS (by decide +kernel) (by simp only [SZ, Nat.reduceAdd]; exact rfl) ?_) | (refine aw_regN (by decide +kernel) (by simp only [SZ, Nat.reduceAdd]; exact rfl) (by repeat (first | assumption | (refine WF.bump ?_ _))) ?_) | (refine arl_nil ?_) | (refine aw_skip ?_) | (refine aw_block ?_) | (refine aw_exit ?_) | (refine aw_ret ?_))
  refine arl_alloc rfl rfl rfl szMT zMT (fresh hw (by first | omega | (simp only [n_bump, n_put]; omega) | (simp only [n_bump, n_put] at *; omega))) ?_
  intro s1 hn1 hwf1 hE1 hg1 hD1
  have hw1 : WF s1 := hwf1 (by repeat (first | assumption | (refine WF.bump ?_ _))) (by simp only [n_bump, n_put, n_touch, n_kill] at *; omega)
  replace hE1 : Ext st s1 := Keeps.trans (show Ext st _ from (by repeat (first | exact Keeps.refl _ _ | (refine Keeps.bumpR ?_ _)))) hE1
  repeat (first | (refine aw_seq ?_) | (refine aw_reg0 (by simp only [SZ, Nat.reduceAdd]; exact rfl) ?_) | (refine aw_reg (by decide +kernel) (by simp only [SZ, Nat.reduceAdd]; exact rfl) ?_) | (refine aw_regS (by decide +kernel) (by simp only [SZ, Nat.reduceAdd]; exact rfl) ?_) | (refine aw_regN (by decide +kernel) (by simp only [SZ, Nat.reduceAdd]; exact rfl) (by repeat (first | assumption | (refine WF.bump ?_ _))) ?_) | (refine arl_nil ?_) | (refine aw_skip ?_) | (refine aw_block ?_) | (refine aw_exit ?_) | (refine aw_ret ?_))
  refine arl_alloc rfl rfl rfl szMT zMT (hD1 _ (by first | omega | (simp only [n_bump, n_put]; omega) | (simp only [n_bump, n_put] at *; omega)) (fresh hw (by first | omega | (simp only [n_bump, n_put]; omega) | (simp only [n_bump, n_put] at *; omega)))) ?_
  intro s2 hn2 hwf2 hE2 hg2 hD2
  have hw2 : WF s2 := hwf2 (by repeat (first | assumption | (refine WF.bump ?_ _))) (by simp only [n_bump, n_put, n_touch, n_kill] at *; omega)
  replace hE2 : Ext s1 s2 := Keeps.trans (show Ext s1 _ from (by repeat (first | exact Keeps.refl _ _ | (refine Keeps.bumpR ?_ _)))) hE2
  simp only [n_bump] at hn1 hn2 hg2 hD2 hg1
  have hgn := (hw _ _ h).2
  have hc2 : s2.get c = some ⟨mat m, MT, true, g⟩ := hE2.get _ _ (hE1.get _ _ h (fun h => h)) (fun h => h)
  have hp2 : s2.get (st.n + 0) = some ⟨List.replicate 32 (v32 0), MT, true, st.n + 0⟩ := hE2.get _ _ hg1 (fun h => h)
  have hE12 : Ext st s2 := hE1.trans hE2
  repeat (first | (refine aw_seq ?_) | (refine aw_reg0 (by simp only [SZ, Nat.reduceAdd]; exact rfl) ?_) | (refine aw_reg (by decide +kernel) (by simp only [SZ, Nat.reduceAdd]; exact rfl) ?_) | (refine aw_regS (by decide +kernel) (by simp only [SZ, Nat.reduceAdd]; exact rfl) ?_) | (refine aw_regN (by decide +kernel) (by simp only [SZ, Nat.reduceAdd]; exact rfl) (by repeat (first | assumption | (refine WF.bump ?_ _))) ?_) | (refine arl_nil ?_) | (refine aw_skip ?_) | (refine aw_block ?_) | (refine aw_exit ?_) | (refine aw_ret ?_) | (refine arl_cons rfl rfl (by simp +decide only [aop, abuiltin, aeval, aintBin, bin_int, aload_bump, SS, reduceIte, reduceCtorEq]; exact rfl) (by first | rfl | with_reducible assumption) rfl ?_) | (refine arl_none rfl rfl (by simp +decide only [aop, abuiltin, aeval, aintBin, bin_int, aload_bump, SS, reduceIte, reduceCtorEq]; exact rfl) rfl rfl ?_) | (refine arl_off rfl rfl ?_) | (refine aw_condT (by simp +decide only [aop, abuiltin, aeval, aintBin, bin_int, aload_bump, SS, reduceIte, reduceCtorEq]; first | done | exact rfl) ?_) | (refine aw_condF (by simp +decide only [aop, abuiltin, aeval, aintBin, bin_int, aload_bump, SS, reduceIte, reduceCtorEq]; first | done | exact rfl) ?_))
  refine aw_rounds_wf (fun n fr sx => Keeps (fun x => x = s1.n + 0) s2 sx ∧ ∃ i : Nat, i ≤ 32 ∧ n = 32 - i ∧ fr 0 = .ptr c 0 ∧ fr 2 = .ptr (st.n + 0) 0 ∧ fr 3 = .ptr (s1.n + 0) 0 ∧ fr 5 = i64 i ∧ sx.get (s1.n + 0) = some ⟨part (m + m) i, MT, true, s1.n + 0⟩) ?_ 32 _ _ (by repeat (first | assumption | (refine WF.bump ?_ _))) ?_
  · rintro n fr sx hws ⟨hK, i, hi, rfl, f0, f2, f3, f5, hg3⟩
    have hKn := hK.n
    by_cases hlt : i < 32
    · have hd : decide ((i : Int) < 32) = true := decide_eq_true (by omega)
      have hcs : sx.get c = some ⟨mat m, MT, true, g⟩ := hK.get _ _ hc2 (by omega)
      have hix := idxM c i hlt
      have hix3 := idxM (s1.n + 0) i hlt
      have hld := loadM hcs i hlt
      have hwk := wrap_succ (k := i) (by omega)
      repeat (first | (refine aw_seq ?_) | (refine aw_reg0 (by simp only [SZ, Nat.reduceAdd]; exact rfl) ?_) | (refine aw_reg (by decide +kernel) (by simp only [SZ, Nat.reduceAdd]; exact rfl) ?_) | (refine aw_regS (by decide +kernel) (by simp only [SZ, Nat.reduceAdd]; exact rfl) ?_) | (refine aw_regN (by decide +kernel) (by simp only [SZ, Nat.reduceAdd]; exact rfl) (by repeat (first | assumption | (refine WF.bump ?_ _))) ?_) | (refine arl_nil ?_) | (refine aw_skip ?_) | (refine aw_block ?_) | (refine aw_exit ?_) | (refine aw_ret ?_) | (refine arl_cons rfl rfl (by simp +decide only [aop, abuiltin, aeval, aintBin, bin_int, aload_bump, SS, reduceIte, reduceCtorEq, f5, hd, f0, hix, hld]; exact rfl) (by first | rfl | with_reducible assumption) rfl ?_) | (refine arl_none rfl rfl (by simp +decide only [aop, abuiltin, aeval, aintBin, bin_int, aload_bump, SS, reduceIte, reduceCtorEq, f5, hd, f0, hix, hld]; exact rfl) rfl rfl ?_) | (refine arl_off rfl rfl ?_) | (refine aw_condT (by simp +decide only [aop, abuiltin, aeval, aintBin, bin_int, aload_bump, SS, reduceIte, reduceCtorEq, f5, hd, f0, hix, hld]; first | done | exact rfl) ?_) | (refine aw_condF (by simp +decide only [aop, abuiltin, aeval, aintBin, bin_int, aload_bump, SS, reduceIte, reduceCtorEq, f5, hd, f0, hix, hld]; first | done | exact rfl) ?_))
      refine arl_call rfl rfl rfl rfl rfl rfl ((of_ok (c := c) (g := g) (m := m) (by repeat (first | assumption | (refine WF.bump ?_ _))) (steps m (1#32 <<< i)) (by exact hcs)).wf (by repeat (first | assumption | (refine WF.bump ?_ _) | (refine WF.put ?_ (by simp only [n_bump, n_put, n_touch, n_kill] at *; omega) (by simp only [n_bump, n_put, n_touch, n_kill] at *; omega)))) |>.mono ?_)
      rintro r s5 ⟨hw5, hn5, hE5, rfl⟩
      refine ⟨by first | rfl | with_reducible assumption, ?_⟩
      replace hE5 : Ext sx s5 := Keeps.trans (by repeat (first | assumption | exact Keeps.refl _ _ | (refine Keeps.bumpR ?_ _) | (refine Keeps.put ?_ (by assumption) (by simp only [n_bump, n_put, n_touch, n_kill] at *; omega)))) hE5
      have hN5 := hE5.n
      rw [← steps_add]
      repeat (first | (refine aw_seq ?_) | (refine aw_reg0 (by simp only [SZ, Nat.reduceAdd]; exact rfl) ?_) | (refine aw_reg (by decide +kernel) (by simp only [SZ, Nat.reduceAdd]; exact rfl) ?_) | (refine aw_regS (by decide +kernel) (by simp only [SZ, Nat.reduceAdd]; exact rfl) ?_) | (refine aw_regN (by decide +kernel) (by simp only [SZ, Nat.reduceAdd]; exact rfl) (by repeat (first | assumption | (refine WF.bump ?_ _))) ?_) | (refine arl_nil ?_) | (refine aw_skip ?_) | (refine aw_block ?_) | (refine aw_exit ?_) | (refine aw_ret ?_) | (refine arl_cons rfl rfl (by simp +decide only [aop, abuiltin, aeval, aintBin, bin_int, aload_bump, SS, reduceIte, reduceCtorEq, f3, hix3]; exact rfl) (by first | rfl | with_reducible assumption) rfl ?_) | (refine arl_none rfl rfl (by simp +decide only [aop, abuiltin, aeval, aintBin, bin_int, aload_bump, SS, reduceIte, reduceCtorEq, f3, hix3]; exact rfl) rfl rfl ?_) | (refine arl_off rfl rfl ?_) | (refine aw_condT (by simp +decide only [aop, abuiltin, aeval, aintBin, bin_int, aload_bump, SS, reduceIte, reduceCtorEq, f3, hix3]; first | done | exact rfl) ?_) | (refine aw_condF (by simp +decide only [aop, abuiltin, aeval, aintBin, bin_int, aload_bump, SS, reduceIte, reduceCtorEq, f3, hix3]; first | done | exact rfl) ?_))
      refine arl_storeX (off := i) (y := v32 (num (steps (m + m) (1#32 <<< i)))) rfl rfl rfl rfl rfl (hE5.get _ _ hg3 (fun h => h)) szU rfl rfl rfl (by rw [part_len _ _ hi]; exact hlt) ?_
      intro s6 hn6 hwf6 hK6 hg6 hD6
      have hw6 : WF s6 := hwf6 hw5
      replace hK6 : Keeps (fun x => x = s1.n + 0) s2 s6 := (hK.trans (Keeps.mono hE5 (fun _ h => h.elim))).trans hK6
      rw [part_set _ _ hlt] at hg6
      repeat (first | (refine aw_seq ?_) | (refine aw_reg0 (by simp only [SZ, Nat.reduceAdd]; exact rfl) ?_) | (refine aw_reg (by decide +kernel) (by simp only [SZ, Nat.reduceAdd]; exact rfl) ?_) | (refine aw_regS (by decide +kernel) (by simp only [SZ, Nat.reduceAdd]; exact rfl) ?_) | (refine aw_regN (by decide +kernel) (by simp only [SZ, Nat.reduceAdd]; exact rfl) (by repeat (first | assumption | (refine WF.bump ?_ _))) ?_) | (refine arl_nil ?_) | (refine aw_skip ?_) | (refine aw_block ?_) | (refine aw_exit ?_) | (refine aw_ret ?_) | (refine arl_cons rfl rfl (by simp +decide only [aop, abuiltin, aeval, aintBin, bin_int, aload_bump, SS, reduceIte, reduceCtorEq, f5, hwk]; exact rfl) (by first | rfl | with_reducible assumption) rfl ?_) | (refine arl_none rfl rfl (by simp +decide only [aop, abuiltin, aeval, aintBin, bin_int, aload_bump, SS, reduceIte, reduceCtorEq, f5, hwk]; exact rfl) rfl rfl ?_) | (refine arl_off rfl rfl ?_) | (refine aw_condT (by simp +decide only [aop, abuiltin, aeval, aintBin, bin_int, aload_bump, SS, reduceIte, reduceCtorEq, f5, hwk]; first | done | exact rfl) ?_) | (refine aw_condF (by simp +decide only [aop, abuiltin, aeval, aintBin, bin_int, aload_bump, SS, reduceIte, reduceCtorEq, f5, hwk]; first | done | exact rfl) ?_))
      exact ⟨32 - (i + 1), by omega, hK6.trans (by repeat (first | exact Keeps.refl _ _ | (refine Keeps.bumpR ?_ _))), i + 1, by omega, rfl, f0, f2, f3, rfl, hg6⟩
    · have hd : decide ((i : Int) < 32) = false := decide_eq_false (by omega)
      obtain rfl : i = 32 := by omega
      rw [part_32] at hg3
      have hld := loadMM hg3
      repeat (first | (refine aw_seq ?_) | (refine aw_reg0 (by simp only [SZ, Nat.reduceAdd]; exact rfl) ?_) | (refine aw_reg (by decide +kernel) (by simp only [SZ, Nat.reduceAdd]; exact rfl) ?_) | (refine aw_regS (by decide +kernel) (by simp only [SZ, Nat.reduceAdd]; exact rfl) ?_) | (refine aw_regN (by decide +kernel) (by simp only [SZ, Nat.reduceAdd]; exact rfl) (by repeat (first | assumption | (refine WF.bump ?_ _))) ?_) | (refine arl_nil ?_) | (refine aw_skip ?_) | (refine aw_block ?_) | (refine aw_exit ?_) | (refine aw_ret ?_) | (refine arl_cons rfl rfl (by simp +decide only [aop, abuiltin, aeval, aintBin, bin_int, aload_bump, SS, reduceIte, reduceCtorEq, f5, hd, f3, hld]; exact rfl) (by first | rfl | with_reducible assumption) rfl ?_) | (refine arl_none rfl rfl (by simp +decide only [aop, abuiltin, aeval, aintBin, bin_int, aload_bump, SS, reduceIte, reduceCtorEq, f5, hd, f3, hld]; exact rfl) rfl rfl ?_) | (refine arl_off rfl rfl ?_) | (refine aw_condT (by simp +decide only [aop, abuiltin, aeval, aintBin, bin_int, aload_bump, SS, reduceIte, reduceCtorEq, f5, hd, f3, hld]; first | done | exact rfl) ?_) | (refine aw_condF (by simp +decide only [aop, abuiltin, aeval, aintBin, bin_int, aload_bump, SS, reduceIte, reduceCtorEq, f5, hd, f3, hld]; first | done | exact rfl) ?_))
      refine arl_storeW (e := MT) (cs := mat (m + m)) rfl rfl rfl f2 rfl (hK.get _ _ hp2 (by show ¬ (st.n + 0 = s1.n + 0); omega)) szMT rfl (mat_len _) (by simp) (mat_one _) rfl ?_
      intro s6 hn6 hwf6 hK6 hg6 hD6
      have hld6 := loadMM hg6
      rw [← f2] at hld6
      repeat (first | (refine aw_seq ?_) | (refine aw_reg0 (by simp only [SZ, Nat.reduceAdd]; exact rfl) ?_) | (refine aw_reg (by decide +kernel) (by simp only [SZ, Nat.reduceAdd]; exact rfl) ?_) | (refine aw_regS (by decide +kernel) (by simp only [SZ, Nat.reduceAdd]; exact rfl) ?_) | (refine aw_regN (by decide +kernel) (by simp only [SZ, Nat.reduceAdd]; exact rfl) (by repeat (first | assumption | (refine WF.bump ?_ _))) ?_) | (refine arl_nil ?_) | (refine aw_skip ?_) | (refine aw_block ?_) | (refine aw_exit ?_) | (refine aw_ret ?_) | (refine arl_cons rfl rfl (by simp +decide only [aop, abuiltin, aeval, aintBin, bin_int, aload_bump, SS, reduceIte, reduceCtorEq]; exact rfl) (by first | rfl | with_reducible assumption) rfl ?_) | (refine arl_none rfl rfl (by simp +decide only [aop, abuiltin, aeval, aintBin, bin_int, aload_bump, SS, reduceIte, reduceCtorEq]; exact rfl) rfl rfl ?_) | (refine arl_off rfl rfl ?_) | (refine aw_condT (by simp +decide only [aop, abuiltin, aeval, aintBin, bin_int, aload_bump, SS, reduceIte, reduceCtorEq]; first | done | exact rfl) ?_) | (refine aw_condF (by simp +decide only [aop, abuiltin, aeval, aintBin, bin_int, aload_bump, SS, reduceIte, reduceCtorEq]; first | done | exact rfl) ?_))
      exact ⟨.inr rfl, _, aresM rfl hld6, (Keeps.call (Keeps.call hE12 hK hw (fun x hx => .inr (by have : x = s1.n + 0 := hx; omega))) (Keeps.trans (Keeps.mono (G := fun _ => False) (show Ext sx _ from (by repeat (first | exact Keeps.refl _ _ | (refine Keeps.bumpR ?_ _)))) (fun _ h => h.elim)) hK6) hw (fun x hx => .inr (by have : x = st.n + 0 := hx; omega))).trans (by repeat (first | exact Keeps.refl _ _ | (refine Keeps.bumpR ?_ _))), rfl⟩
  · exact ⟨(by repeat (first | exact Keeps.refl _ _ | (refine Keeps.bumpR ?_ _))), 0, by omega, rfl, rfl, rfl, rfl, rfl, by rw [part_0]; exact hg2⟩
theorem shl_fact : ∀ i : Fin 32, IntKind.u32.wrap (1 * 2 ^ min ((i.val : Int)).toNat IntKind.u32.bits) = num (1#32 <<< i.val) := by decide +kernel
theorem num_P : num Cm.P = 2197175160 := by decide +kernel
theorem step_odd {s : BitVec 32} (h : s.getLsbD 0 = true) : Cm.step s = (s >>> 1) ^^^ Cm.P := by unfold Cm.step; rw [h]; rfl
set_option maxHeartbeats 1000000 in
theorem zero_ok {st : St} (hw : WF st) : ACalls Tryd.prog 21 [] st (fun r s' => Ext st s' ∧ r = .agg (mat 8)) := by
  refine acalls_of Tryd.func21 rfl (by kernel_rfl) rfl ?_
  repeat (first | (refine aw_seq ?_) | (refine aw_reg0 (by simp only [SZ, Nat.reduceAdd]; exact rfl) ?_) | (refine aw_reg (by decide +kernel) (by simp only [SZ, Nat.reduceAdd]; exact rfl) ?_) | (refine aw_regS (by decide +kernel) (by simp only [SZ, Nat.reduceAdd]; exact rfl) ?_) | (refine aw_regN (by decide +kernel) (by simp only [SZ, Nat.reduceAdd]; exact rfl) (by repeat (first | assumption | (refine WF.bump ?_ _))) ?_) | (refine arl_nil ?_) | (refine aw_skip ?_) | (refine aw_block ?_) | (refine aw_exit ?_) | (refine aw_ret ?_))
  refine arl_alloc rfl rfl rfl szMT zMT (fresh hw (by first | omega | (simp only [n_bump, n_put]; omega) | (simp only [n_bump, n_put] at *; omega))) ?_
  intro s1 hn1 hwf1 hE1 hg1 hD1
  have hw1 : WF s1 := hwf1 (by repeat (first | assumption | (refine WF.bump ?_ _))) (by simp only [n_bump, n_put, n_touch, n_kill] at *; omega)
  replace hE1 : Ext st s1 := Keeps.trans (show Ext st _ from (by repeat (first | exact Keeps.refl _ _ | (refine Keeps.bumpR ?_ _)))) hE1
  repeat (first | (refine aw_seq ?_) | (refine aw_reg0 (by simp only [SZ, Nat.reduceAdd]; exact rfl) ?_) | (refine aw_reg (by decide +kernel) (by simp only [SZ, Nat.reduceAdd]; exact rfl) ?_) | (refine aw_regS (by decide +kernel) (by simp only [SZ, Nat.reduceAdd]; exact rfl) ?_) | (refine aw_regN (by decide +kernel) (by simp only [SZ, Nat.reduceAdd]; exact rfl) (by repeat (first | assumption | (refine WF.bump ?_ _))) ?_) | (refine arl_nil ?_) | (refine aw_skip ?_) | (refine aw_block ?_) | (refine aw_exit ?_) | (refine aw_ret ?_))
  refine arl_alloc rfl rfl rfl szMT zMT (hD1 _ (by first | omega | (simp only [n_bump, n_put]; omega) | (simp only [n_bump, n_put] at *; omega)) (fresh hw (by first | omega | (simp only [n_bump, n_put]; omega) | (simp only [n_bump, n_put] at *; omega)))) ?_
  intro s2 hn2 hwf2 hE2 hg2 hD2
  have hw2 : WF s2 := hwf2 (by repeat (first | assumption | (refine WF.bump ?_ _))) (by simp only [n_bump, n_put, n_touch, n_kill] at *; omega)
  replace hE2 : Ext s1 s2 := Keeps.trans (show Ext s1 _ from (by repeat (first | exact Keeps.refl _ _ | (refine Keeps.bumpR ?_ _)))) hE2
  simp only [n_bump] at hn1 hn2 hg2 hD2 hg1
  have hp2 : s2.get (st.n + 0) = some ⟨List.replicate 32 (v32 0), MT, true, st.n + 0⟩ := hE2.get _ _ hg1 (fun h => h)
  have hE12 : Ext st s2 := hE1.trans hE2
  repeat (first | (refine aw_seq ?_) | (refine aw_reg0 (by simp only [SZ, Nat.reduceAdd]; exact rfl) ?_) | (refine aw_reg (by decide +kernel) (by simp only [SZ, Nat.reduceAdd]; exact rfl) ?_) | (refine aw_regS (by decide +kernel) (by simp only [SZ, Nat.reduceAdd]; exact rfl) ?_) | (refine aw_regN (by decide +kernel) (by simp only [SZ, Nat.reduceAdd]; exact rfl) (by repeat (first | assumption | (refine WF.bump ?_ _))) ?_) | (refine arl_nil ?_) | (refine aw_skip ?_) | (refine aw_block ?_) | (refine aw_exit ?_) | (refine aw_ret ?_) | (refine arl_cons rfl rfl (by simp +decide only [aop, abuiltin, aeval, aintBin, bin_int, aload_bump, SS, reduceIte, reduceCtorEq]; exact rfl) (by first | rfl | with_reducible assumption) rfl ?_) | (refine arl_none rfl rfl (by simp +decide only [aop, abuiltin, aeval, aintBin, bin_int, aload_bump, SS, reduceIte, reduceCtorEq]; exact rfl) rfl rfl ?_) | (refine arl_off rfl rfl ?_) | (refine aw_condT (by simp +decide only [aop, abuiltin, aeval, aintBin, bin_int, aload_bump, SS, reduceIte, reduceCtorEq]; first | done | exact rfl) ?_) | (refine aw_condF (by simp +decide only [aop, abuiltin, aeval, aintBin, bin_int, aload_bump, SS, reduceIte, reduceCtorEq]; first | done | exact rfl) ?_))
  refine aw_rounds_wf (fun n fr sx => Keeps (fun x => x = s1.n + 0) s2 sx ∧ ∃ i : Nat, i ≤ 32 ∧ n = 32 - i ∧ fr 0 = .ptr (st.n + 0) 0 ∧ fr 1 = .ptr (s1.n + 0) 0 ∧ fr 4 = i64 i ∧ sx.get (s1.n + 0) = some ⟨part 8 i, MT, true, s1.n + 0⟩) ?_ 32 _ _ (by repeat (first | assumption | (refine WF.bump ?_ _))) ?_
  · rintro n fr sx hws ⟨hK, i, hi, rfl, f0, f1, f4, hg3⟩
    have hKn := hK.n
    by_cases hlt : i < 32
    · have hd : decide ((i : Int) < 32) = true := decide_eq_true (by omega)
      have hsh := shl_fact ⟨i, hlt⟩
      have hi0 : ¬ ((i : Int) < 0) := by omega
      simp only at hsh
      have hshl : ∀ t, abin Tryd.prog .shl t (v32 1) (i64 i) = some (.int .u32 (num (1#32 <<< i))) := by
        intro t
        simp only [abin, aintBin, reduceCtorEq, false_or, or_true, true_or, if_true]
        rw [if_neg hi0, hsh]
      repeat (first | (refine aw_seq ?_) | (refine aw_reg0 (by simp only [SZ, Nat.reduceAdd]; exact rfl) ?_) | (refine aw_reg (by decide +kernel) (by simp only [SZ, Nat.reduceAdd]; exact rfl) ?_) | (refine aw_regS (by decide +kernel) (by simp only [SZ, Nat.reduceAdd]; exact rfl) ?_) | (refine aw_regN (by decide +kernel) (by simp only [SZ, Nat.reduceAdd]; exact rfl) (by repeat (first | assumption | (refine WF.bump ?_ _))) ?_) | (refine arl_nil ?_) | (refine aw_skip ?_) | (refine aw_block ?_) | (refine aw_exit ?_) | (refine aw_ret ?_) | (refine arl_cons rfl rfl (by simp +decide only [aop, abuiltin, aeval, aintBin, bin_int, aload_bump, SS, reduceIte, reduceCtorEq, f4, hd, hshl]; exact rfl) (by first | rfl | with_reducible assumption) rfl ?_) | (refine arl_none rfl rfl (by simp +decide only [aop, abuiltin, aeval, aintBin, bin_int, aload_bump, SS, reduceIte, reduceCtorEq, f4, hd, hshl]; exact rfl) rfl rfl ?_) | (refine arl_off rfl rfl ?_) | (refine aw_condT (by simp +decide only [aop, abuiltin, aeval, aintBin, bin_int, aload_bump, SS, reduceIte, reduceCtorEq, f4, hd, hshl]; first | done | exact rfl) ?_) | (refine aw_condF (by simp +decide only [aop, abuiltin, aeval, aintBin, bin_int, aload_bump, SS, reduceIte, reduceCtorEq, f4, hd, hshl]; first | done | exact rfl) ?_))
      refine AW.mono (AW.wf (aw_rounds_wf (fun n fr s => Ext sx s ∧ ∃ j : Nat, j ≤ 8 ∧ n = 8 - j ∧ fr 0 = .ptr (st.n + 0) 0 ∧ fr 1 = .ptr (s1.n + 0) 0 ∧ fr 4 = i64 i ∧ fr 2 = i64 i ∧ fr 9 = i64 j ∧ fr 3 = v32 (num (steps j (1#32 <<< i))))
        (Q := fun e fr s => e = .exit 2 ∧ Ext sx s ∧ fr 0 = .ptr (st.n + 0) 0 ∧ fr 1 = .ptr (s1.n + 0) 0 ∧ fr 4 = i64 i ∧ fr 2 = i64 i ∧ fr 3 = v32 (num (steps 8 (1#32 <<< i)))) ?_ 8 _ _ (by repeat (first | assumption | (refine WF.bump ?_ _))) ?_) (by repeat (first | assumption | (refine WF.bump ?_ _)))) ?_
      · rintro n fr s hws ⟨hE, j, hj, rfl, f0, f1, f4, f2, f9, f3⟩
        by_cases hlt : j < 8
        · have hd : decide ((j : Int) < 8) = true := decide_eq_true (by omega)
          obtain ⟨x, hx⟩ : ∃ x, steps j (1#32 <<< i) = x := ⟨_, rfl⟩
          rw [hx] at f3
          have hsn : steps (j + 1) (1#32 <<< i) = Cm.step x := by rw [steps_succ, hx]
          have hb := bit_and x
          have hs1 := shr1 x
          have hwk := wrap_succ (k := j) (by omega)
          cases hbit : x.getLsbD 0
          · rw [hbit] at hb
            simp only [Bool.false_eq_true, if_false] at hb
            have hd2 : ((0 : Int) != 0) = false := rfl
            repeat (first | (refine aw_seq ?_) | (refine aw_reg0 (by simp only [SZ, Nat.reduceAdd]; exact rfl) ?_) | (refine aw_reg (by decide +kernel) (by simp only [SZ, Nat.reduceAdd]; exact rfl) ?_) | (refine aw_regS (by decide +kernel) (by simp only [SZ, Nat.reduceAdd]; exact rfl) ?_) | (refine aw_regN (by decide +kernel) (by simp only [SZ, Nat.reduceAdd]; exact rfl) (by repeat (first | assumption | (refine WF.bump ?_ _))) ?_) | (refine arl_nil ?_) | (refine aw_skip ?_) | (refine aw_block ?_) | (refine aw_exit ?_) | (refine aw_ret ?_) | (refine arl_cons rfl rfl (by simp +decide only [aop, abuiltin, aeval, aintBin, bin_int, aload_bump, SS, reduceIte, reduceCtorEq, f9, f3, hd, hb, hd2, hs1, hwk]; exact rfl) (by first | rfl | with_reducible assumption) rfl ?_) | (refine arl_none rfl rfl (by simp +decide only [aop, abuiltin, aeval, aintBin, bin_int, aload_bump, SS, reduceIte, reduceCtorEq, f9, f3, hd, hb, hd2, hs1, hwk]; exact rfl) rfl rfl ?_) | (refine arl_off rfl rfl ?_) | (refine aw_condT (by simp +decide only [aop, abuiltin, aeval, aintBin, bin_int, aload_bump, SS, reduceIte, reduceCtorEq, f9, f3, hd, hb, hd2, hs1, hwk]; first | done | exact rfl) ?_) | (refine aw_condF (by simp +decide only [aop, abuiltin, aeval, aintBin, bin_int, aload_bump, SS, reduceIte, reduceCtorEq, f9, f3, hd, hb, hd2, hs1, hwk]; first | done | exact rfl) ?_))
            refine ⟨8 - (j + 1), by omega, hE.trans (by repeat (first | exact Keeps.refl _ _ | (refine Keeps.bumpR ?_ _))), j + 1, by omega, rfl, f0, f1, f4, f2, rfl, ?_⟩
            rw [hsn, step_even hbit]
            rfl
          · rw [hbit] at hb
            simp only [if_true] at hb
            have hd2 : ((1 : Int) != 0) = true := rfl
            have hxo := xor_num (x >>> 1) Cm.P
            rw [num_P] at hxo
            repeat (first | (refine aw_seq ?_) | (refine aw_reg0 (by simp only [SZ, Nat.reduceAdd]; exact rfl) ?_) | (refine aw_reg (by decide +kernel) (by simp only [SZ, Nat.reduceAdd]; exact rfl) ?_) | (refine aw_regS (by decide +kernel) (by simp only [SZ, Nat.reduceAdd]; exact rfl) ?_) | (refine aw_regN (by decide +kernel) (by simp only [SZ, Nat.reduceAdd]; exact rfl) (by repeat (first | assumption | (refine WF.bump ?_ _))) ?_) | (refine arl_nil ?_) | (refine aw_skip ?_) | (refine aw_block ?_) | (refine aw_exit ?_) | (refine aw_ret ?_) | (refine arl_cons rfl rfl (by simp +decide only [aop, abuiltin, aeval, aintBin, bin_int, aload_bump, SS, reduceIte, reduceCtorEq, f9, f3, hd, hb, hd2, hs1, hwk, hxo]; exact rfl) (by first | rfl | with_reducible assumption) rfl ?_) | (refine arl_none rfl rfl (by simp +decide only [aop, abuiltin, aeval, aintBin, bin_int, aload_bump, SS, reduceIte, reduceCtorEq, f9, f3, hd, hb, hd2, hs1, hwk, hxo]; exact rfl) rfl rfl ?_) | (refine arl_off rfl rfl ?_) | (refine aw_condT (by simp +decide only [aop, abuiltin, aeval, aintBin, bin_int, aload_bump, SS, reduceIte, reduceCtorEq, f9, f3, hd, hb, hd2, hs1, hwk, hxo]; first | done | exact rfl) ?_) | (refine aw_condF (by simp +decide only [aop, abuiltin, aeval, aintBin, bin_int, aload_bump, SS, reduceIte, reduceCtorEq, f9, f3, hd, hb, hd2, hs1, hwk, hxo]; first | done | exact rfl) ?_))
            refine ⟨8 - (j + 1), by omega, hE.trans (by repeat (first | exact Keeps.refl _ _ | (refine Keeps.bumpR ?_ _))), j + 1, by omega, rfl, f0, f1, f4, f2, rfl, ?_⟩
            rw [hsn, step_odd hbit]
            rfl
        · have hd : decide ((j : Int) < 8) = false := decide_eq_false (by omega)
          obtain rfl : j = 8 := by omega
          repeat (first | (refine aw_seq ?_) | (refine aw_reg0 (by simp only [SZ, Nat.reduceAdd]; exact rfl) ?_) | (refine aw_reg (by decide +kernel) (by simp only [SZ, Nat.reduceAdd]; exact rfl) ?_) | (refine aw_regS (by decide +kernel) (by simp only [SZ, Nat.reduceAdd]; exact rfl) ?_) | (refine aw_regN (by decide +kernel) (by simp only [SZ, Nat.reduceAdd]; exact rfl) (by repeat (first | assumption | (refine WF.bump ?_ _))) ?_) | (refine arl_nil ?_) | (refine aw_skip ?_) | (refine aw_block ?_) | (refine aw_exit ?_) | (refine aw_ret ?_) | (refine arl_cons rfl rfl (by simp +decide only [aop, abuiltin, aeval, aintBin, bin_int, aload_bump, SS, reduceIte, reduceCtorEq, f9, hd]; exact rfl) (by first | rfl | with_reducible assumption) rfl ?_) | (refine arl_none rfl rfl (by simp +decide only [aop, abuiltin, aeval, aintBin, bin_int, aload_bump, SS, reduceIte, reduceCtorEq, f9, hd]; exact rfl) rfl rfl ?_) | (refine arl_off rfl rfl ?_) | (refine aw_condT (by simp +decide only [aop, abuiltin, aeval, aintBin, bin_int, aload_bump, SS, reduceIte, reduceCtorEq, f9, hd]; first | done | exact rfl) ?_) | (refine aw_condF (by simp +decide only [aop, abuiltin, aeval, aintBin, bin_int, aload_bump, SS, reduceIte, reduceCtorEq, f9, hd]; first | done | exact rfl) ?_))
          exact ⟨rfl, hE.trans (by repeat (first | exact Keeps.refl _ _ | (refine Keeps.bumpR ?_ _))), f0, f1, f4, f2, f3⟩
      · exact ⟨(by repeat (first | exact Keeps.refl _ _ | (refine Keeps.bumpR ?_ _))), 0, by omega, rfl, f0, f1, f4, rfl, rfl, rfl⟩
      rintro e fr s ⟨hw5, hn5, rfl, hE5, f0, f1, f4, f2, f3⟩
      have hix := idxM (s1.n + 0) i hlt
      have hwk := wrap_succ (k := i) (by omega)
      repeat (first | (refine aw_seq ?_) | (refine aw_reg0 (by simp only [SZ, Nat.reduceAdd]; exact rfl) ?_) | (refine aw_reg (by decide +kernel) (by simp only [SZ, Nat.reduceAdd]; exact rfl) ?_) | (refine aw_regS (by decide +kernel) (by simp only [SZ, Nat.reduceAdd]; exact rfl) ?_) | (refine aw_regN (by decide +kernel) (by simp only [SZ, Nat.reduceAdd]; exact rfl) (by repeat (first | assumption | (refine WF.bump ?_ _))) ?_) | (refine arl_nil ?_) | (refine aw_skip ?_) | (refine aw_block ?_) | (refine aw_exit ?_) | (refine aw_ret ?_) | (refine arl_cons rfl rfl (by simp +decide only [aop, abuiltin, aeval, aintBin, bin_int, aload_bump, SS, reduceIte, reduceCtorEq, f2, f3, f1, hix]; exact rfl) (by first | rfl | with_reducible assumption) rfl ?_) | (refine arl_none rfl rfl (by simp +decide only [aop, abuiltin, aeval, aintBin, bin_int, aload_bump, SS, reduceIte, reduceCtorEq, f2, f3, f1, hix]; exact rfl) rfl rfl ?_) | (refine arl_off rfl rfl ?_) | (refine aw_condT (by simp +decide only [aop, abuiltin, aeval, aintBin, bin_int, aload_bump, SS, reduceIte, reduceCtorEq, f2, f3, f1, hix]; first | done | exact rfl) ?_) | (refine aw_condF (by simp +decide only [aop, abuiltin, aeval, aintBin, bin_int, aload_bump, SS, reduceIte, reduceCtorEq, f2, f3, f1, hix]; first | done | exact rfl) ?_))
      refine arl_storeX (off := i) (y := v32 (num (steps 8 (1#32 <<< i)))) rfl rfl rfl rfl rfl (hE5.get _ _ hg3 (fun h => h)) szU rfl rfl rfl (by rw [part_len _ _ hi]; exact hlt) ?_
      intro s6 hn6 hwf6 hK6 hg6 hD6
      have hw6 : WF s6 := hwf6 (by repeat (first | assumption | (refine WF.bump ?_ _)))
      replace hK6 : Keeps (fun x => x = s1.n + 0) s2 s6 := (hK.trans (Keeps.mono (hE5.trans (show Ext s _ from (by repeat (first | exact Keeps.refl _ _ | (refine Keeps.bumpR ?_ _))))) (fun _ h => h.elim))).trans hK6
      rw [part_set _ _ hlt] at hg6
      repeat (first | (refine aw_seq ?_) | (refine aw_reg0 (by simp only [SZ, Nat.reduceAdd]; exact rfl) ?_) | (refine aw_reg (by decide +kernel) (by simp only [SZ, Nat.reduceAdd]; exact rfl) ?_) | (refine aw_regS (by decide +kernel) (by simp only [SZ, Nat.reduceAdd]; exact rfl) ?_) | (refine aw_regN (by decide +kernel) (by simp only [SZ, Nat.reduceAdd]; exact rfl) (by repeat (first | assumption | (refine WF.bump ?_ _))) ?_) | (refine arl_nil ?_) | (refine aw_skip ?_) | (refine aw_block ?_) | (refine aw_exit ?_) | (refine aw_ret ?_) | (refine arl_cons rfl rfl (by simp +decide only [aop, abuiltin, aeval, aintBin, bin_int, aload_bump, SS, reduceIte, reduceCtorEq, f4, hwk]; exact rfl) (by first | rfl | with_reducible assumption) rfl ?_) | (refine arl_none rfl rfl (by simp +decide only [aop, abuiltin, aeval, aintBin, bin_int, aload_bump, SS, reduceIte, reduceCtorEq, f4, hwk]; exact rfl) rfl rfl ?_) | (refine arl_off rfl rfl ?_) | (refine aw_condT (by simp +decide only [aop, abuiltin, aeval, aintBin, bin_int, aload_bump, SS, reduceIte, reduceCtorEq, f4, hwk]; first | done | exact rfl) ?_) | (refine aw_condF (by simp +decide only [aop, abuiltin, aeval, aintBin, bin_int, aload_bump, SS, reduceIte, reduceCtorEq, f4, hwk]; first | done | exact rfl) ?_))
      exact ⟨32 - (i + 1), by omega, hK6.trans (by repeat (first | exact Keeps.refl _ _ | (refine Keeps.bumpR ?_ _))), i + 1, by omega, rfl, f0, f1, rfl, hg6⟩
    · have hd : decide ((i : Int) < 32) = false := decide_eq_false (by omega)
      obtain rfl : i = 32 := by omega
      rw [part_32] at hg3
      have hld := loadMM hg3
      repeat (first | (refine aw_seq ?_) | (refine aw_reg0 (by simp only [SZ, Nat.reduceAdd]; exact rfl) ?_) | (refine aw_reg (by decide +kernel) (by simp only [SZ, Nat.reduceAdd]; exact rfl) ?_) | (refine aw_regS (by decide +kernel) (by simp only [SZ, Nat.reduceAdd]; exact rfl) ?_) | (refine aw_regN (by decide +kernel) (by simp only [SZ, Nat.reduceAdd]; exact rfl) (by repeat (first | assumption | (refine WF.bump ?_ _))) ?_) | (refine arl_nil ?_) | (refine aw_skip ?_) | (refine aw_block ?_) | (refine aw_exit ?_) | (refine aw_ret ?_) | (refine arl_cons rfl rfl (by simp +decide only [aop, abuiltin, aeval, aintBin, bin_int, aload_bump, SS, reduceIte, reduceCtorEq, f4, hd, f1, hld]; exact rfl) (by first | rfl | with_reducible assumption) rfl ?_) | (refine arl_none rfl rfl (by simp +decide only [aop, abuiltin, aeval, aintBin, bin_int, aload_bump, SS, reduceIte, reduceCtorEq, f4, hd, f1, hld]; exact rfl) rfl rfl ?_) | (refine arl_off rfl rfl ?_) | (refine aw_condT (by simp +decide only [aop, abuiltin, aeval, aintBin, bin_int, aload_bump, SS, reduceIte, reduceCtorEq, f4, hd, f1, hld]; first | done | exact rfl) ?_) | (refine aw_condF (by simp +decide only [aop, abuiltin, aeval, aintBin, bin_int, aload_bump, SS, reduceIte, reduceCtorEq, f4, hd, f1, hld]; first | done | exact rfl) ?_))
      refine arl_storeW (e := MT) (cs := mat 8) rfl rfl rfl f0 rfl (hK.get _ _ hp2 (by show ¬ (st.n + 0 = s1.n + 0); omega)) szMT rfl (mat_len _) (by simp) (mat_one _) rfl ?_
      intro s6 hn6 hwf6 hK6 hg6 hD6
      have hld6 := loadMM hg6
      rw [← f0] at hld6
      repeat (first | (refine aw_seq ?_) | (refine aw_reg0 (by simp only [SZ, Nat.reduceAdd]; exact rfl) ?_) | (refine aw_reg (by decide +kernel) (by simp only [SZ, Nat.reduceAdd]; exact rfl) ?_) | (refine aw_regS (by decide +kernel) (by simp only [SZ, Nat.reduceAdd]; exact rfl) ?_) | (refine aw_regN (by decide +kernel) (by simp only [SZ, Nat.reduceAdd]; exact rfl) (by repeat (first | assumption | (refine WF.bump ?_ _))) ?_) | (refine arl_nil ?_) | (refine aw_skip ?_) | (refine aw_block ?_) | (refine aw_exit ?_) | (refine aw_ret ?_) | (refine arl_cons rfl rfl (by simp +decide only [aop, abuiltin, aeval, aintBin, bin_int, aload_bump, SS, reduceIte, reduceCtorEq]; exact rfl) (by first | rfl | with_reducible assumption) rfl ?_) | (refine arl_none rfl rfl (by simp +decide only [aop, abuiltin, aeval, aintBin, bin_int, aload_bump, SS, reduceIte, reduceCtorEq]; exact rfl) rfl rfl ?_) | (refine arl_off rfl rfl ?_) | (refine aw_condT (by simp +decide only [aop, abuiltin, aeval, aintBin, bin_int, aload_bump, SS, reduceIte, reduceCtorEq]; first | done | exact rfl) ?_) | (refine aw_condF (by simp +decide only [aop, abuiltin, aeval, aintBin, bin_int, aload_bump, SS, reduceIte, reduceCtorEq]; first | done | exact rfl) ?_))
      exact ⟨.inr rfl, _, aresM rfl hld6, (Keeps.call (Keeps.call hE12 hK hw (fun x hx => .inr (by have : x = s1.n + 0 := hx; omega))) (Keeps.trans (Keeps.mono (G := fun _ => False) (show Ext sx _ from (by repeat (first | exact Keeps.refl _ _ | (refine Keeps.bumpR ?_ _)))) (fun _ h => h.elim)) hK6) hw (fun x hx => .inr (by have : x = st.n + 0 := hx; omega))).trans (by repeat (first | exact Keeps.refl _ _ | (refine Keeps.bumpR ?_ _))), rfl⟩
  · exact ⟨(by repeat (first | exact Keeps.refl _ _ | (refine Keeps.bumpR ?_ _))), 0, by omega, rfl, rfl, rfl, rfl, by rw [part_0]; exact hg2⟩
/-- The sum of two texts. -/
def lk (a b : BitVec 32) (n : Nat) : BitVec 32 := steps (8 * n) a ^^^ b
theorem not_xor (a : BitVec 32) : ~~~a = a ^^^ BitVec.allOnes 32 := by rw [BitVec.xor_allOnes]
theorem upd_lk (a : BitVec 32) (l : List Int) : upd a l = lk a (upd 0#32 l) l.length := by
  unfold lk upd
  rw [reg_split l (~~~a), reg_split l (~~~0#32), not_xor a, steps_xor, not_xor (steps (8 * l.length) a ^^^ _ ^^^ _), not_xor (steps (8 * l.length) (~~~0#32) ^^^ _), show (~~~0#32 : BitVec 32) = BitVec.allOnes 32 from by decide]
  simp only [BitVec.xor_assoc]
theorem crc_lk (x y : List Int) : crc (x ++ y) = lk (crc x) (crc y) y.length := by
  unfold crc
  rw [upd_append, upd_lk]
theorem bit63 {k : Nat} (h1 : k < 9223372036854775808) : bits .and .i64 (k : Int) 1 = ((k % 2 : Nat) : Int) := by
  have e : bits .and .i64 (k : Int) 1 = IntKind.i64.wrap ((BitVec.ofInt 64 (k : Int) &&& BitVec.ofInt 64 1).toNat : Int) := rfl
  have e2 : (BitVec.ofInt 64 (k : Int) &&& BitVec.ofInt 64 1).toNat = k % 2 := by
    rw [BitVec.toNat_and, show (BitVec.ofInt 64 1).toNat = 1 from rfl, Nat.and_one_is_mod, BitVec.ofInt_natCast, BitVec.toNat_ofNat]
    omega
  rw [e, e2, IntKind.wrap_i64]
  omega
set_option maxHeartbeats 1000000 in
theorem link_ok {st : St} (hw : WF st) (a c : BitVec 32) (n : Nat) (hn : n < 9223372036854775808) :
    ACalls Tryd.prog 11 [v32 (num a), v32 (num c), i64 n] st (fun r s' => Ext st s' ∧ r = v32 (num (lk a c n))) := by
  refine acalls_of Tryd.func11 rfl (by kernel_rfl) rfl ?_
  repeat (first | (refine aw_seq ?_) | (refine aw_reg0 (by simp only [SZ, Nat.reduceAdd]; exact rfl) ?_) | (refine aw_reg (by decide +kernel) (by simp only [SZ, Nat.reduceAdd]; exact rfl) ?_) | (refine aw_regS (by decide +kernel) (by simp only [SZ, Nat.reduceAdd]; exact rfl) ?_) | (refine aw_regN (by decide +kernel) (by simp only [SZ, Nat.reduceAdd]; exact rfl) (by repeat (first | assumption | (refine WF.bump ?_ _))) ?_) | (refine arl_nil ?_) | (refine aw_skip ?_) | (refine aw_block ?_) | (refine aw_exit ?_) | (refine aw_ret ?_) | (refine arl_cons rfl rfl (by simp +decide only [aop, abuiltin, aeval, aintBin, bin_int, aload_bump, SS, reduceIte, reduceCtorEq]; exact rfl) (by first | rfl | with_reducible assumption) rfl ?_) | (refine arl_none rfl rfl (by simp +decide only [aop, abuiltin, aeval, aintBin, bin_int, aload_bump, SS, reduceIte, reduceCtorEq]; exact rfl) rfl rfl ?_) | (refine arl_off rfl rfl ?_) | (refine aw_condT (by simp +decide only [aop, abuiltin, aeval, aintBin, bin_int, aload_bump, SS, reduceIte, reduceCtorEq]; first | done | exact rfl) ?_) | (refine aw_condF (by simp +decide only [aop, abuiltin, aeval, aintBin, bin_int, aload_bump, SS, reduceIte, reduceCtorEq]; first | done | exact rfl) ?_))
  refine arl_call rfl rfl rfl rfl rfl rfl ((zero_ok (by repeat (first | assumption | (refine WF.bump ?_ _)))).dead.wf (by repeat (first | assumption | (refine WF.bump ?_ _) | (refine WF.put ?_ (by simp only [n_bump, n_put, n_touch, n_kill] at *; omega) (by simp only [n_bump, n_put, n_touch, n_kill] at *; omega)))) |>.mono ?_)
  rintro r s1 ⟨hw1, hn1, hd1, hE1, rfl⟩
  refine ⟨rfl, ?_⟩
  replace hE1 : Ext st s1 := Keeps.trans (show Ext st _ from (by repeat (first | exact Keeps.refl _ _ | (refine Keeps.bumpR ?_ _)))) hE1
  simp only [n_bump] at hn1
  repeat (first | (refine aw_seq ?_) | (refine aw_reg0 (by simp only [SZ, Nat.reduceAdd]; exact rfl) ?_) | (refine aw_reg (by decide +kernel) (by simp only [SZ, Nat.reduceAdd]; exact rfl) ?_) | (refine aw_regS (by decide +kernel) (by simp only [SZ, Nat.reduceAdd]; exact rfl) ?_) | (refine aw_regN (by decide +kernel) (by simp only [SZ, Nat.reduceAdd]; exact rfl) (by repeat (first | assumption | (refine WF.bump ?_ _))) ?_) | (refine arl_nil ?_) | (refine aw_skip ?_) | (refine aw_block ?_) | (refine aw_exit ?_) | (refine aw_ret ?_))
  refine arl_alloc rfl rfl rfl szMT zMT (hd1 _ (by first | omega | (simp only [n_bump, n_put]; omega) | (simp only [n_bump, n_put] at *; omega)) (fresh hw (by first | omega | (simp only [n_bump, n_put]; omega) | (simp only [n_bump, n_put] at *; omega)))) ?_
  intro s2 hn2 hwf2 hE2 hg2 hD2
  have hw2 : WF s2 := hwf2 (by repeat (first | assumption | (refine WF.bump ?_ _))) (by simp only [n_bump, n_put, n_touch, n_kill] at *; omega)
  obtain ⟨b, hb⟩ : ∃ b, (st.bump 1).n + (0 + 1) = b := ⟨_, rfl⟩
  rw [hb] at hg2
  rw [hb]
  simp only [n_bump] at hb
  refine arl_storeW (e := MT) (cs := mat 8) rfl rfl rfl rfl rfl hg2 szMT rfl (mat_len _) (by simp) (mat_one _) rfl ?_
  intro s3 hn3 hwf3 hK3 hg3 hD3
  have hw3 : WF s3 := hwf3 (by repeat (first | assumption | (refine WF.bump ?_ _)))
  have hEK : Ext st s3 := Keeps.call (hE1.trans hE2) hK3 hw (fun x hx => .inr (by have : x = b := hx; omega))
  repeat (first | (refine aw_seq ?_) | (refine aw_reg0 (by simp only [SZ, Nat.reduceAdd]; exact rfl) ?_) | (refine aw_reg (by decide +kernel) (by simp only [SZ, Nat.reduceAdd]; exact rfl) ?_) | (refine aw_regS (by decide +kernel) (by simp only [SZ, Nat.reduceAdd]; exact rfl) ?_) | (refine aw_regN (by decide +kernel) (by simp only [SZ, Nat.reduceAdd]; exact rfl) (by repeat (first | assumption | (refine WF.bump ?_ _))) ?_) | (refine arl_nil ?_) | (refine aw_skip ?_) | (refine aw_block ?_) | (refine aw_exit ?_) | (refine aw_ret ?_) | (refine arl_cons rfl rfl (by simp +decide only [aop, abuiltin, aeval, aintBin, bin_int, aload_bump, SS, reduceIte, reduceCtorEq]; exact rfl) (by first | rfl | with_reducible assumption) rfl ?_) | (refine arl_none rfl rfl (by simp +decide only [aop, abuiltin, aeval, aintBin, bin_int, aload_bump, SS, reduceIte, reduceCtorEq]; exact rfl) rfl rfl ?_) | (refine arl_off rfl rfl ?_) | (refine aw_condT (by simp +decide only [aop, abuiltin, aeval, aintBin, bin_int, aload_bump, SS, reduceIte, reduceCtorEq]; first | done | exact rfl) ?_) | (refine aw_condF (by simp +decide only [aop, abuiltin, aeval, aintBin, bin_int, aload_bump, SS, reduceIte, reduceCtorEq]; first | done | exact rfl) ?_))
  refine aw_rounds_wf (fun k fr sx => Keeps (fun x => x = b) s3 sx ∧ ∃ (M : Nat) (x : BitVec 32), k < 9223372036854775808 ∧ fr 0 = v32 (num x) ∧ fr 1 = v32 (num c) ∧ fr 2 = i64 k ∧ fr 7 = .ptr b 0 ∧ sx.get b = some ⟨mat M, MT, true, b⟩ ∧ steps (M * k) x = steps (8 * n) a) ?_ n _ _ (by repeat (first | assumption | (refine WF.bump ?_ _))) ?_
  · rintro k fr sx hws ⟨hK, M, x, hk, f0, f1, f2, f7, hg, hst⟩
    have hKn := hK.n
    by_cases h0 : k = 0
    · subst h0
      have hd : decide ((((0 : Nat) : Int)) > 0) = false := rfl
      have hxo := xor_num x c
      repeat (first | (refine aw_seq ?_) | (refine aw_reg0 (by simp only [SZ, Nat.reduceAdd]; exact rfl) ?_) | (refine aw_reg (by decide +kernel) (by simp only [SZ, Nat.reduceAdd]; exact rfl) ?_) | (refine aw_regS (by decide +kernel) (by simp only [SZ, Nat.reduceAdd]; exact rfl) ?_) | (refine aw_regN (by decide +kernel) (by simp only [SZ, Nat.reduceAdd]; exact rfl) (by repeat (first | assumption | (refine WF.bump ?_ _))) ?_) | (refine arl_nil ?_) | (refine aw_skip ?_) | (refine aw_block ?_) | (refine aw_exit ?_) | (refine aw_ret ?_) | (refine arl_cons rfl rfl (by simp +decide only [aop, abuiltin, aeval, aintBin, bin_int, aload_bump, SS, reduceIte, reduceCtorEq, f2, hd, f0, f1, hxo]; exact rfl) (by first | rfl | with_reducible assumption) rfl ?_) | (refine arl_none rfl rfl (by simp +decide only [aop, abuiltin, aeval, aintBin, bin_int, aload_bump, SS, reduceIte, reduceCtorEq, f2, hd, f0, f1, hxo]; exact rfl) rfl rfl ?_) | (refine arl_off rfl rfl ?_) | (refine aw_condT (by simp +decide only [aop, abuiltin, aeval, aintBin, bin_int, aload_bump, SS, reduceIte, reduceCtorEq, f2, hd, f0, f1, hxo]; first | done | exact rfl) ?_) | (refine aw_condF (by simp +decide only [aop, abuiltin, aeval, aintBin, bin_int, aload_bump, SS, reduceIte, reduceCtorEq, f2, hd, f0, f1, hxo]; first | done | exact rfl) ?_))
      refine ⟨.inr rfl, _, rfl, (Keeps.call hEK hK hw (fun y hy => .inr (by have : y = b := hy; omega))).trans (by repeat (first | exact Keeps.refl _ _ | (refine Keeps.bumpR ?_ _))), ?_⟩
      rw [Nat.mul_zero] at hst
      unfold lk
      rw [← hst]
      rfl
    · have hd : decide (((k : Nat) : Int) > 0) = true := decide_eq_true (by omega)
      have hb1 := bit63 hk
      have hsh : ((k : Nat) : Int).fdiv (2 ^ min (1 : Int).toNat IntKind.i64.bits) = ((k / 2 : Nat) : Int) := by
        rw [show (2 : Int) ^ min (1 : Int).toNat IntKind.i64.bits = 2 from rfl, Int.fdiv_eq_ediv_of_nonneg _ (by decide)]
        omega
      have hshr : ∀ t, abin Tryd.prog .shr t (i64 k) (.pl (.int .u64 1)) = some (.int .i64 ((k / 2 : Nat) : Int)) := by
        intro t
        simp only [abin, aintBin, reduceCtorEq, false_or, or_true, true_or, if_true]
        rw [if_neg (by decide), hsh]
      have hsq : ∀ s' : St, WF s' → s'.get b = some ⟨mat M, MT, true, b⟩ → ACalls Tryd.prog 23 [fr 7] s' (fun r s'' => Ext s' s'' ∧ r = .agg (mat (M + M))) := by rw [f7]; exact fun s' hw hg => squared_ok hw hg
      have hof : ∀ s' : St, WF s' → s'.get b = some ⟨mat M, MT, true, b⟩ → ACalls Tryd.prog 22 [fr 7, v32 (num x)] s' (fun r s'' => Ext s' s'' ∧ r = v32 (num (steps M x))) := by rw [f7]; exact fun s' hw hg => of_ok hw x hg
      by_cases h2 : k % 2 = 0
      · have hd2 : (((k % 2 : Nat) : Int) != 0) = false := by rw [h2]; rfl
        repeat (first | (refine aw_seq ?_) | (refine aw_reg0 (by simp only [SZ, Nat.reduceAdd]; exact rfl) ?_) | (refine aw_reg (by decide +kernel) (by simp only [SZ, Nat.reduceAdd]; exact rfl) ?_) | (refine aw_regS (by decide +kernel) (by simp only [SZ, Nat.reduceAdd]; exact rfl) ?_) | (refine aw_regN (by decide +kernel) (by simp only [SZ, Nat.reduceAdd]; exact rfl) (by repeat (first | assumption | (refine WF.bump ?_ _))) ?_) | (refine arl_nil ?_) | (refine aw_skip ?_) | (refine aw_block ?_) | (refine aw_exit ?_) | (refine aw_ret ?_) | (refine arl_cons rfl rfl (by simp +decide only [aop, abuiltin, aeval, aintBin, bin_int, aload_bump, SS, reduceIte, reduceCtorEq, f2, hd, hb1, hd2]; exact rfl) (by first | rfl | with_reducible assumption) rfl ?_) | (refine arl_none rfl rfl (by simp +decide only [aop, abuiltin, aeval, aintBin, bin_int, aload_bump, SS, reduceIte, reduceCtorEq, f2, hd, hb1, hd2]; exact rfl) rfl rfl ?_) | (refine arl_off rfl rfl ?_) | (refine aw_condT (by simp +decide only [aop, abuiltin, aeval, aintBin, bin_int, aload_bump, SS, reduceIte, reduceCtorEq, f2, hd, hb1, hd2]; first | done | exact rfl) ?_) | (refine aw_condF (by simp +decide only [aop, abuiltin, aeval, aintBin, bin_int, aload_bump, SS, reduceIte, reduceCtorEq, f2, hd, hb1, hd2]; first | done | exact rfl) ?_))
        refine arl_call rfl rfl rfl rfl rfl rfl ((hsq _ (by repeat (first | assumption | (refine WF.bump ?_ _))) (by exact hg)).wf (by repeat (first | assumption | (refine WF.bump ?_ _) | (refine WF.put ?_ (by simp only [n_bump, n_put, n_touch, n_kill] at *; omega) (by simp only [n_bump, n_put, n_touch, n_kill] at *; omega)))) |>.mono ?_)
        rintro r s5 ⟨hw5, hn5, hE5, rfl⟩
        refine ⟨by first | rfl | with_reducible assumption, ?_⟩
        replace hE5 : Ext sx s5 := Keeps.trans (by repeat (first | assumption | exact Keeps.refl _ _ | (refine Keeps.bumpR ?_ _) | (refine Keeps.put ?_ (by assumption) (by simp only [n_bump, n_put, n_touch, n_kill] at *; omega)))) hE5
        have hN5 := hE5.n
        refine arl_storeW (e := MT) (cs := mat (M + M)) rfl rfl rfl f7 rfl (hE5.get _ _ hg (fun h => h)) szMT rfl (mat_len _) (mat_len _) (mat_one _) rfl ?_
        intro s6 hn6 hwf6 hK6 hg6 hD6
        have hw6 : WF s6 := hwf6 (by repeat (first | assumption | (refine WF.bump ?_ _)))
        replace hK6 : Keeps (fun x => x = b) s3 s6 := (hK.trans (Keeps.mono hE5 (fun _ h => h.elim))).trans hK6
        repeat (first | (refine aw_seq ?_) | (refine aw_reg0 (by simp only [SZ, Nat.reduceAdd]; exact rfl) ?_) | (refine aw_reg (by decide +kernel) (by simp only [SZ, Nat.reduceAdd]; exact rfl) ?_) | (refine aw_regS (by decide +kernel) (by simp only [SZ, Nat.reduceAdd]; exact rfl) ?_) | (refine aw_regN (by decide +kernel) (by simp only [SZ, Nat.reduceAdd]; exact rfl) (by repeat (first | assumption | (refine WF.bump ?_ _))) ?_) | (refine arl_nil ?_) | (refine aw_skip ?_) | (refine aw_block ?_) | (refine aw_exit ?_) | (refine aw_ret ?_) | (refine arl_cons rfl rfl (by simp +decide only [aop, abuiltin, aeval, aintBin, bin_int, aload_bump, SS, reduceIte, reduceCtorEq, f2, hshr]; exact rfl) (by first | rfl | with_reducible assumption) rfl ?_) | (refine arl_none rfl rfl (by simp +decide only [aop, abuiltin, aeval, aintBin, bin_int, aload_bump, SS, reduceIte, reduceCtorEq, f2, hshr]; exact rfl) rfl rfl ?_) | (refine arl_off rfl rfl ?_) | (refine aw_condT (by simp +decide only [aop, abuiltin, aeval, aintBin, bin_int, aload_bump, SS, reduceIte, reduceCtorEq, f2, hshr]; first | done | exact rfl) ?_) | (refine aw_condF (by simp +decide only [aop, abuiltin, aeval, aintBin, bin_int, aload_bump, SS, reduceIte, reduceCtorEq, f2, hshr]; first | done | exact rfl) ?_))
        refine ⟨k / 2, by omega, hK6.trans (by repeat (first | exact Keeps.refl _ _ | (refine Keeps.bumpR ?_ _))), M + M, x, by omega, f0, f1, rfl, f7, hg6, ?_⟩
        rw [← hst]
        congr 1
        have : k = 2 * (k / 2) := by omega
        conv => rhs; rw [this]
        rw [← Nat.mul_assoc, Nat.mul_comm M 2, Nat.two_mul]
      · have hd2 : (((k % 2 : Nat) : Int) != 0) = true := by
          have : k % 2 = 1 := by omega
          rw [this]; rfl
        repeat (first | (refine aw_seq ?_) | (refine aw_reg0 (by simp only [SZ, Nat.reduceAdd]; exact rfl) ?_) | (refine aw_reg (by decide +kernel) (by simp only [SZ, Nat.reduceAdd]; exact rfl) ?_) | (refine aw_regS (by decide +kernel) (by simp only [SZ, Nat.reduceAdd]; exact rfl) ?_) | (refine aw_regN (by decide +kernel) (by simp only [SZ, Nat.reduceAdd]; exact rfl) (by repeat (first | assumption | (refine WF.bump ?_ _))) ?_) | (refine arl_nil ?_) | (refine aw_skip ?_) | (refine aw_block ?_) | (refine aw_exit ?_) | (refine aw_ret ?_) | (refine arl_cons rfl rfl (by simp +decide only [aop, abuiltin, aeval, aintBin, bin_int, aload_bump, SS, reduceIte, reduceCtorEq, f2, hd, hb1, hd2, f0]; exact rfl) (by first | rfl | with_reducible assumption) rfl ?_) | (refine arl_none rfl rfl (by simp +decide only [aop, abuiltin, aeval, aintBin, bin_int, aload_bump, SS, reduceIte, reduceCtorEq, f2, hd, hb1, hd2, f0]; exact rfl) rfl rfl ?_) | (refine arl_off rfl rfl ?_) | (refine aw_condT (by simp +decide only [aop, abuiltin, aeval, aintBin, bin_int, aload_bump, SS, reduceIte, reduceCtorEq, f2, hd, hb1, hd2, f0]; first | done | exact rfl) ?_) | (refine aw_condF (by simp +decide only [aop, abuiltin, aeval, aintBin, bin_int, aload_bump, SS, reduceIte, reduceCtorEq, f2, hd, hb1, hd2, f0]; first | done | exact rfl) ?_))
        refine arl_call rfl rfl rfl rfl rfl rfl ((hof _ (by repeat (first | assumption | (refine WF.bump ?_ _))) (by exact hg)).wf (by repeat (first | assumption | (refine WF.bump ?_ _) | (refine WF.put ?_ (by simp only [n_bump, n_put, n_touch, n_kill] at *; omega) (by simp only [n_bump, n_put, n_touch, n_kill] at *; omega)))) |>.mono ?_)
        rintro r s4 ⟨hw4, hn4, hE4, rfl⟩
        refine ⟨by first | rfl | with_reducible assumption, ?_⟩
        replace hE4 : Ext sx s4 := Keeps.trans (by repeat (first | assumption | exact Keeps.refl _ _ | (refine Keeps.bumpR ?_ _) | (refine Keeps.put ?_ (by assumption) (by simp only [n_bump, n_put, n_touch, n_kill] at *; omega)))) hE4
        have hN4 := hE4.n
        repeat (first | (refine aw_seq ?_) | (refine aw_reg0 (by simp only [SZ, Nat.reduceAdd]; exact rfl) ?_) | (refine aw_reg (by decide +kernel) (by simp only [SZ, Nat.reduceAdd]; exact rfl) ?_) | (refine aw_regS (by decide +kernel) (by simp only [SZ, Nat.reduceAdd]; exact rfl) ?_) | (refine aw_regN (by decide +kernel) (by simp only [SZ, Nat.reduceAdd]; exact rfl) (by repeat (first | assumption | (refine WF.bump ?_ _))) ?_) | (refine arl_nil ?_) | (refine aw_skip ?_) | (refine aw_block ?_) | (refine aw_exit ?_) | (refine aw_ret ?_) | (refine arl_cons rfl rfl (by simp +decide only [aop, abuiltin, aeval, aintBin, bin_int, aload_bump, SS, reduceIte, reduceCtorEq]; exact rfl) (by first | rfl | with_reducible assumption) rfl ?_) | (refine arl_none rfl rfl (by simp +decide only [aop, abuiltin, aeval, aintBin, bin_int, aload_bump, SS, reduceIte, reduceCtorEq]; exact rfl) rfl rfl ?_) | (refine arl_off rfl rfl ?_) | (refine aw_condT (by simp +decide only [aop, abuiltin, aeval, aintBin, bin_int, aload_bump, SS, reduceIte, reduceCtorEq]; first | done | exact rfl) ?_) | (refine aw_condF (by simp +decide only [aop, abuiltin, aeval, aintBin, bin_int, aload_bump, SS, reduceIte, reduceCtorEq]; first | done | exact rfl) ?_))
        refine arl_call rfl rfl rfl rfl rfl rfl ((hsq _ (by repeat (first | assumption | (refine WF.bump ?_ _))) (by exact hE4.get _ _ hg (fun h => h))).wf (by repeat (first | assumption | (refine WF.bump ?_ _) | (refine WF.put ?_ (by simp only [n_bump, n_put, n_touch, n_kill] at *; omega) (by simp only [n_bump, n_put, n_touch, n_kill] at *; omega)))) |>.mono ?_)
        rintro r s5 ⟨hw5, hn5, hE5, rfl⟩
        refine ⟨by first | rfl | with_reducible assumption, ?_⟩
        replace hE5 : Ext s4 s5 := Keeps.trans (by repeat (first | assumption | exact Keeps.refl _ _ | (refine Keeps.bumpR ?_ _) | (refine Keeps.put ?_ (by assumption) (by simp only [n_bump, n_put, n_touch, n_kill] at *; omega)))) hE5
        have hN5 := hE5.n
        refine arl_storeW (e := MT) (cs := mat (M + M)) rfl rfl rfl f7 rfl (hE5.get _ _ (hE4.get _ _ hg (fun h => h)) (fun h => h)) szMT rfl (mat_len _) (mat_len _) (mat_one _) rfl ?_
        intro s6 hn6 hwf6 hK6 hg6 hD6
        have hw6 : WF s6 := hwf6 (by repeat (first | assumption | (refine WF.bump ?_ _)))
        replace hK6 : Keeps (fun x => x = b) s3 s6 := (hK.trans (Keeps.mono (hE4.trans hE5) (fun _ h => h.elim))).trans hK6
        repeat (first | (refine aw_seq ?_) | (refine aw_reg0 (by simp only [SZ, Nat.reduceAdd]; exact rfl) ?_) | (refine aw_reg (by decide +kernel) (by simp only [SZ, Nat.reduceAdd]; exact rfl) ?_) | (refine aw_regS (by decide +kernel) (by simp only [SZ, Nat.reduceAdd]; exact rfl) ?_) | (refine aw_regN (by decide +kernel) (by simp only [SZ, Nat.reduceAdd]; exact rfl) (by repeat (first | assumption | (refine WF.bump ?_ _))) ?_) | (refine arl_nil ?_) | (refine aw_skip ?_) | (refine aw_block ?_) | (refine aw_exit ?_) | (refine aw_ret ?_) | (refine arl_cons rfl rfl (by simp +decide only [aop, abuiltin, aeval, aintBin, bin_int, aload_bump, SS, reduceIte, reduceCtorEq, f2, hshr]; exact rfl) (by first | rfl | with_reducible assumption) rfl ?_) | (refine arl_none rfl rfl (by simp +decide only [aop, abuiltin, aeval, aintBin, bin_int, aload_bump, SS, reduceIte, reduceCtorEq, f2, hshr]; exact rfl) rfl rfl ?_) | (refine arl_off rfl rfl ?_) | (refine aw_condT (by simp +decide only [aop, abuiltin, aeval, aintBin, bin_int, aload_bump, SS, reduceIte, reduceCtorEq, f2, hshr]; first | done | exact rfl) ?_) | (refine aw_condF (by simp +decide only [aop, abuiltin, aeval, aintBin, bin_int, aload_bump, SS, reduceIte, reduceCtorEq, f2, hshr]; first | done | exact rfl) ?_))
        refine ⟨k / 2, by omega, hK6.trans (by repeat (first | exact Keeps.refl _ _ | (refine Keeps.bumpR ?_ _))), M + M, steps M x, by omega, rfl, f1, rfl, f7, hg6, ?_⟩
        rw [← hst, ← steps_add]
        congr 1
        have : k = 2 * (k / 2) + 1 := by omega
        conv => rhs; rw [this]
        rw [Nat.mul_add, Nat.mul_one, ← Nat.mul_assoc, Nat.mul_comm M 2, Nat.two_mul, Nat.add_comm]
  · exact ⟨(by repeat (first | exact Keeps.refl _ _ | (refine Keeps.bumpR ?_ _))), 8, a, hn, rfl, rfl, rfl, rfl, hg3, rfl⟩
end Go.Proofs.YtjpgpkkbmoehdaaDoor.Ra
