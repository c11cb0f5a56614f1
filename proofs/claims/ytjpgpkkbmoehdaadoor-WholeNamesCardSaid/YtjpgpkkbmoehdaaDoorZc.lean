/- crc.Update, crc.Sum, by the table that is laid. -/
import Derived.Test.YtjpgpkkbmoehdaaDoorZb
import Derived.Test.YtjpgpkkbmoehdaaDoorRw
import Derived.Test.YtjpgpkkbmoehdaaDoorRr
namespace Go.Proofs.YtjpgpkkbmoehdaaDoor.Ra
open Go Go.RowKit Cm
set_option linter.unusedVariables false
set_option linter.unusedSimpArgs false
set_option maxRecDepth 10000
theorem crc_nil : num (crc []) = 0 := by decide +kernel
abbrev v32 (x : Int) : AV := .pl (.int .u32 x)
/-- The table stands at its variable. -/
def TabA (st : St) : Prop := ∃ o, st.get 0 = some o ∧ o.grp = 0 ∧ ∀ j : Nat, j < 16 → o.cells[j]? = some (v32 (crcRows.getD j 0))
theorem TabA.keep {st s : St} {G : Nat → Prop} (h : TabA st) (hk : Keeps G st s) (hG : ¬ G 0) : TabA s := by
  obtain ⟨o, h1, h2, h3⟩ := h
  exact ⟨o, hk.get 0 o h1 (by rw [h2]; exact hG), h2, h3⟩
theorem TabA.up {st s : St} (h : TabA st) (hk : Ext st s) : TabA s := h.keep hk (fun h => h)
theorem tabA_of {W : World} (h : ∀ j : Nat, j < 16 → W.cell? ⟨0, j, none⟩ = some (.int .u32 (crcRows.getD j 0))) : TabA (absSt W) ∧ 1 ≤ W.heap.size := by
  have h0 := h 0 (by decide)
  unfold World.cell? at h0
  split at h0
  case h_2 => cases h0
  rename_i c e fz hb
  have hlt : 0 < W.heap.size := (Array.getElem?_eq_some_iff.1 hb).1
  refine ⟨⟨_, absSt_at hb, rfl, fun j hj => ?_⟩, hlt⟩
  have hj2 := h j hj
  simp only [World.cell?, hb] at hj2
  simp only [Option.isSome_none, Bool.false_eq_true, if_false] at hj2
  simp only [List.getElem?_map, Array.getElem?_toList, hj2]
  rfl
theorem idxT (j : Nat) (h : j < 16) : aindexAddr Tryd.prog 68 (.pl (.pointer (some ⟨0, 0, none⟩))) (v32 j) = some (.pl (.pointer (some ⟨0, j, none⟩))) := by
  have e : szOf Tryd.prog 26 = some 1 := by kernel_rfl
  simp only [aindexAddr, Tryd.underlying68, e]
  rw [if_pos ⟨by omega, by omega⟩]
  simp
theorem TabA.load {st : St} (h : TabA st) (j : Nat) (hj : j < 16) : aload Tryd.prog st 26 (.pl (.pointer (some ⟨0, j, none⟩))) = some (v32 (crcRows.getD j 0)) := by
  obtain ⟨o, h1, h2, h3⟩ := h
  have e : szOf Tryd.prog 26 = some 1 := by kernel_rfl
  have g : Tryd.prog.globals.size = 7 := by kernel_rfl
  simp only [aload, g, h1, Tryd.underlying26, e, aggD]
  rw [if_pos (by decide)]
  simpa using h3 j hj
theorem aunX (x : Int) : aun .xor (v32 x) = some (.int .u32 (Go.bits .xor .u32 IntKind.u32.max x)) := by simp [aun, IntKind.signed]
theorem shr4 (t : TypeId) (x : Int) : abin Tryd.prog .shr t (v32 x) (.pl (.int .u64 4)) = some (.int .u32 (x.fdiv (2 ^ min (4 : Int).toNat IntKind.u32.bits))) := by simp [abin, aintBin]
set_option maxHeartbeats 2000000 in
theorem update_ok {st : St} (hw : WF st) (hT : TabA st) {K : Nat → Prop} {v : AV} {l : List Int} (c : BitVec 32) (h : RdB st K v l) (hl : l.length ≤ 140737488355327) (hby : ∀ x ∈ l, 0 ≤ x ∧ x ≤ 255) :
    ACalls Tryd.prog 16 [v32 (num c), v] st (fun r s => Ext st s ∧ r = v32 (num (upd c l))) := by
  have hvs := h.solid
  have hln := h.len
  have hxm := xor_max c
  refine acalls_of Tryd.func16 rfl (by kernel_rfl) (by simp [hvs]; rfl) ?_
  repeat (first | (refine aw_seq ?_) | (refine aw_reg0 (by simp only [SZ, Nat.reduceAdd]; exact rfl) ?_) | (refine aw_reg (by decide +kernel) (by simp only [SZ, Nat.reduceAdd]; exact rfl) ?_) | (refine aw_regS (by decide +kernel) (by simp only [SZ, Nat.reduceAdd]; exact rfl) ?_) | (refine aw_regN (by decide +kernel) (by simp only [SZ, Nat.reduceAdd]; exact rfl) (by repeat (first | assumption | (refine WF.bump ?_ _))) ?_) | (refine arl_nil ?_) | (refine aw_skip ?_) | (refine aw_block ?_) | (refine aw_exit ?_) | (refine aw_ret ?_) | (refine arl_cons rfl rfl (by simp +decide only [aop, abuiltin, aeval, aintBin, bin_int, aload_bump, SS, reduceIte, reduceCtorEq, aunX, hxm, hln]; exact rfl) (by first | rfl | with_reducible assumption) rfl ?_) | (refine arl_none rfl rfl (by simp +decide only [aop, abuiltin, aeval, aintBin, bin_int, aload_bump, SS, reduceIte, reduceCtorEq, aunX, hxm, hln]; exact rfl) rfl rfl ?_) | (refine arl_off rfl rfl ?_) | (refine aw_condT (by simp +decide only [aop, abuiltin, aeval, aintBin, bin_int, aload_bump, SS, reduceIte, reduceCtorEq, aunX, hxm, hln]; first | done | exact rfl) ?_) | (refine aw_condF (by simp +decide only [aop, abuiltin, aeval, aintBin, bin_int, aload_bump, SS, reduceIte, reduceCtorEq, aunX, hxm, hln]; first | done | exact rfl) ?_))
  refine aw_rounds_wf (fun m fr s => Ext st s ∧ ∃ k : Nat, k ≤ l.length ∧ m = l.length - k ∧ fr 5 = v32 (num (reg (~~~c) (l.take k))) ∧ fr 10 = v ∧ fr 11 = i64 l.length ∧ fr 12 = i64 k) ?_ l.length _ _ (by repeat (first | assumption | (refine WF.bump ?_ _))) ?_
  · rintro m fr s hws ⟨hE, k, hk, rfl, f5, f10, f11, f12⟩
    by_cases hlt : k < l.length
    · have d1 : decide ((k : Int) < (l.length : Int)) = true := decide_eq_true (by omega)
      obtain ⟨p, q1, q2, q3⟩ := (h.up hE).atN .i64 k hlt
      have hx := hby _ (List.getElem_mem hlt)
      have hsn : reg (~~~c) (l.take (k + 1)) = steps 8 (reg (~~~c) (l.take k) ^^^ BitVec.ofInt 32 l[k]) := by rw [List.take_succ_eq_append_getElem hlt, reg_snoc]
      obtain ⟨a, ha⟩ : ∃ a, reg (~~~c) (l.take k) = a := ⟨_, rfl⟩
      obtain ⟨x, hxx⟩ : ∃ x, l[k] = x := ⟨_, rfl⟩
      rw [ha, hxx] at hsn
      rw [ha] at f5
      rw [hxx] at q3 hx
      have hwx : IntKind.u32.wrap x = x := by rw [IntKind.wrap_u32]; omega
      have hxb := xor_byte a hx.1 hx.2
      obtain ⟨j1, b1, b2, b3, b4⟩ := nib_facts (a ^^^ BitVec.ofInt 32 x)
      obtain ⟨j2, c1, c2, c3, c4⟩ := nib_facts (steps 4 (a ^^^ BitVec.ofInt 32 x))
      rw [steps_8] at c4
      have i1 := idxT j1 b1
      have i2 := idxT j2 c1
      have t1 := (hT.up hE).load j1 b1
      have t2 := (hT.up hE).load j2 c1
      have hwk := wrap_succ (k := k) (by omega)
      repeat (first | (refine aw_seq ?_) | (refine aw_reg0 (by simp only [SZ, Nat.reduceAdd]; exact rfl) ?_) | (refine aw_reg (by decide +kernel) (by simp only [SZ, Nat.reduceAdd]; exact rfl) ?_) | (refine aw_regS (by decide +kernel) (by simp only [SZ, Nat.reduceAdd]; exact rfl) ?_) | (refine aw_regN (by decide +kernel) (by simp only [SZ, Nat.reduceAdd]; exact rfl) (by repeat (first | assumption | (refine WF.bump ?_ _))) ?_) | (refine arl_nil ?_) | (refine aw_skip ?_) | (refine aw_block ?_) | (refine aw_exit ?_) | (refine aw_ret ?_) | (refine arl_cons rfl rfl (by simp +decide only [aop, abuiltin, aeval, aintBin, bin_int, aload_bump, SS, reduceIte, reduceCtorEq, f12, f11, d1, f10, q1, q3, f5, conv_int Tryd.underlying5 Tryd.underlying26, hwx, hxb, shr4, b2, b3, i1, t1, b4, c2, c3, i2, t2, c4, hwk]; exact rfl) (by first | rfl | with_reducible assumption) rfl ?_) | (refine arl_none rfl rfl (by simp +decide only [aop, abuiltin, aeval, aintBin, bin_int, aload_bump, SS, reduceIte, reduceCtorEq, f12, f11, d1, f10, q1, q3, f5, conv_int Tryd.underlying5 Tryd.underlying26, hwx, hxb, shr4, b2, b3, i1, t1, b4, c2, c3, i2, t2, c4, hwk]; exact rfl) rfl rfl ?_) | (refine arl_off rfl rfl ?_) | (refine aw_condT (by simp +decide only [aop, abuiltin, aeval, aintBin, bin_int, aload_bump, SS, reduceIte, reduceCtorEq, f12, f11, d1, f10, q1, q3, f5, conv_int Tryd.underlying5 Tryd.underlying26, hwx, hxb, shr4, b2, b3, i1, t1, b4, c2, c3, i2, t2, c4, hwk]; first | done | exact rfl) ?_) | (refine aw_condF (by simp +decide only [aop, abuiltin, aeval, aintBin, bin_int, aload_bump, SS, reduceIte, reduceCtorEq, f12, f11, d1, f10, q1, q3, f5, conv_int Tryd.underlying5 Tryd.underlying26, hwx, hxb, shr4, b2, b3, i1, t1, b4, c2, c3, i2, t2, c4, hwk]; first | done | exact rfl) ?_))
      exact ⟨l.length - (k + 1), by omega, hE.trans (by repeat (first | exact Keeps.refl _ _ | (refine Keeps.bumpR ?_ _))), k + 1, by omega, rfl, by rw [hsn]; rfl, f10, f11, rfl⟩
    · have d1 : decide ((k : Int) < (l.length : Int)) = false := decide_eq_false (by omega)
      obtain rfl : k = l.length := by omega
      rw [List.take_length] at f5
      have hxm2 := xor_max (reg (~~~c) l)
      repeat (first | (refine aw_seq ?_) | (refine aw_reg0 (by simp only [SZ, Nat.reduceAdd]; exact rfl) ?_) | (refine aw_reg (by decide +kernel) (by simp only [SZ, Nat.reduceAdd]; exact rfl) ?_) | (refine aw_regS (by decide +kernel) (by simp only [SZ, Nat.reduceAdd]; exact rfl) ?_) | (refine aw_regN (by decide +kernel) (by simp only [SZ, Nat.reduceAdd]; exact rfl) (by repeat (first | assumption | (refine WF.bump ?_ _))) ?_) | (refine arl_nil ?_) | (refine aw_skip ?_) | (refine aw_block ?_) | (refine aw_exit ?_) | (refine aw_ret ?_) | (refine arl_cons rfl rfl (by simp +decide only [aop, abuiltin, aeval, aintBin, bin_int, aload_bump, SS, reduceIte, reduceCtorEq, f12, f11, d1, f5, aunX, hxm2]; exact rfl) (by first | rfl | with_reducible assumption) rfl ?_) | (refine arl_none rfl rfl (by simp +decide only [aop, abuiltin, aeval, aintBin, bin_int, aload_bump, SS, reduceIte, reduceCtorEq, f12, f11, d1, f5, aunX, hxm2]; exact rfl) rfl rfl ?_) | (refine arl_off rfl rfl ?_) | (refine aw_condT (by simp +decide only [aop, abuiltin, aeval, aintBin, bin_int, aload_bump, SS, reduceIte, reduceCtorEq, f12, f11, d1, f5, aunX, hxm2]; first | done | exact rfl) ?_) | (refine aw_condF (by simp +decide only [aop, abuiltin, aeval, aintBin, bin_int, aload_bump, SS, reduceIte, reduceCtorEq, f12, f11, d1, f5, aunX, hxm2]; first | done | exact rfl) ?_))
      exact ⟨.inr rfl, _, rfl, hE.trans (by repeat (first | exact Keeps.refl _ _ | (refine Keeps.bumpR ?_ _))), rfl⟩
  · exact ⟨(by repeat (first | exact Keeps.refl _ _ | (refine Keeps.bumpR ?_ _))), 0, by omega, rfl, rfl, rfl, rfl, rfl⟩
set_option maxHeartbeats 2000000 in
theorem sum_ok {st : St} (hw : WF st) (hT : TabA st) {K : Nat → Prop} {v : AV} {ps : List (List Int)} (h : RdE rowK st K v ps) (hl : ps.length ≤ 140737488355327) (hll : ∀ p ∈ ps, p.length ≤ 140737488355327) (hby : ∀ p ∈ ps, ∀ x ∈ p, 0 ≤ x ∧ x ≤ 255) :
    ACalls Tryd.prog 6 [v] st (fun r s => Ext st s ∧ r = v32 (num (crc ps.flatten))) := by
  have hvs := h.solid
  have hln := RdE.len h TR
  refine acalls_of Tryd.func6 rfl (by kernel_rfl) (by simp [hvs]) ?_
  repeat (first | (refine aw_seq ?_) | (refine aw_reg0 (by simp only [SZ, Nat.reduceAdd]; exact rfl) ?_) | (refine aw_reg (by decide +kernel) (by simp only [SZ, Nat.reduceAdd]; exact rfl) ?_) | (refine aw_regS (by decide +kernel) (by simp only [SZ, Nat.reduceAdd]; exact rfl) ?_) | (refine aw_regN (by decide +kernel) (by simp only [SZ, Nat.reduceAdd]; exact rfl) (by repeat (first | assumption | (refine WF.bump ?_ _))) ?_) | (refine arl_nil ?_) | (refine aw_skip ?_) | (refine aw_block ?_) | (refine aw_exit ?_) | (refine aw_ret ?_) | (refine arl_cons rfl rfl (by simp +decide only [aop, abuiltin, aeval, aintBin, bin_int, aload_bump, SS, reduceIte, reduceCtorEq, hln]; exact rfl) (by first | rfl | with_reducible assumption) rfl ?_) | (refine arl_none rfl rfl (by simp +decide only [aop, abuiltin, aeval, aintBin, bin_int, aload_bump, SS, reduceIte, reduceCtorEq, hln]; exact rfl) rfl rfl ?_) | (refine arl_off rfl rfl ?_) | (refine aw_condT (by simp +decide only [aop, abuiltin, aeval, aintBin, bin_int, aload_bump, SS, reduceIte, reduceCtorEq, hln]; first | done | exact rfl) ?_) | (refine aw_condF (by simp +decide only [aop, abuiltin, aeval, aintBin, bin_int, aload_bump, SS, reduceIte, reduceCtorEq, hln]; first | done | exact rfl) ?_))
  refine aw_rounds_wf (fun m fr s => Ext st s ∧ ∃ k : Nat, k ≤ ps.length ∧ m = ps.length - k ∧ fr 3 = v32 (num (crc (ps.take k).flatten)) ∧ fr 6 = v ∧ fr 7 = i64 ps.length ∧ fr 8 = i64 k) ?_ ps.length _ _ (by repeat (first | assumption | (refine WF.bump ?_ _))) ?_
  · rintro m fr sx hws ⟨hE, k, hk, rfl, f3, f6, f7, f8⟩
    by_cases hlt : k < ps.length
    · have d1 : decide ((k : Int) < (ps.length : Int)) = true := decide_eq_true (by omega)
      obtain ⟨a, c, a1, a2, a3, a4, a5⟩ := row_at (h.up hE) .i64 k hlt
      have hwk := wrap_succ (k := k) (by omega)
      repeat (first | (refine aw_seq ?_) | (refine aw_reg0 (by simp only [SZ, Nat.reduceAdd]; exact rfl) ?_) | (refine aw_reg (by decide +kernel) (by simp only [SZ, Nat.reduceAdd]; exact rfl) ?_) | (refine aw_regS (by decide +kernel) (by simp only [SZ, Nat.reduceAdd]; exact rfl) ?_) | (refine aw_regN (by decide +kernel) (by simp only [SZ, Nat.reduceAdd]; exact rfl) (by repeat (first | assumption | (refine WF.bump ?_ _))) ?_) | (refine arl_nil ?_) | (refine aw_skip ?_) | (refine aw_block ?_) | (refine aw_exit ?_) | (refine aw_ret ?_) | (refine arl_cons rfl rfl (by simp +decide only [aop, abuiltin, aeval, aintBin, bin_int, aload_bump, SS, reduceIte, reduceCtorEq, f8, f7, d1, f6, a1, a3, f3]; exact rfl) (by first | rfl | with_reducible assumption) rfl ?_) | (refine arl_none rfl rfl (by simp +decide only [aop, abuiltin, aeval, aintBin, bin_int, aload_bump, SS, reduceIte, reduceCtorEq, f8, f7, d1, f6, a1, a3, f3]; exact rfl) rfl rfl ?_) | (refine arl_off rfl rfl ?_) | (refine aw_condT (by simp +decide only [aop, abuiltin, aeval, aintBin, bin_int, aload_bump, SS, reduceIte, reduceCtorEq, f8, f7, d1, f6, a1, a3, f3]; first | done | exact rfl) ?_) | (refine aw_condF (by simp +decide only [aop, abuiltin, aeval, aintBin, bin_int, aload_bump, SS, reduceIte, reduceCtorEq, f8, f7, d1, f6, a1, a3, f3]; first | done | exact rfl) ?_))
      refine arl_call rfl rfl rfl rfl rfl rfl ((update_ok (by repeat (first | assumption | (refine WF.bump ?_ _))) ((hT.up hE).up (by repeat (first | exact Keeps.refl _ _ | (refine Keeps.bumpR ?_ _)))) (crc (ps.take k).flatten) (a5.up (by repeat (first | exact Keeps.refl _ _ | (refine Keeps.bumpR ?_ _)))) (hll _ (List.getElem_mem hlt)) (hby _ (List.getElem_mem hlt))).wf (by repeat (first | assumption | (refine WF.bump ?_ _) | (refine WF.put ?_ (by simp only [n_bump, n_put, n_touch, n_kill] at *; omega) (by simp only [n_bump, n_put, n_touch, n_kill] at *; omega)))) |>.mono ?_)
      rintro r s1 ⟨hw1, hn1, hE1, rfl⟩
      refine ⟨by first | rfl | with_reducible assumption, ?_⟩
      replace hE1 : Ext sx s1 := Keeps.trans (by repeat (first | assumption | exact Keeps.refl _ _ | (refine Keeps.bumpR ?_ _) | (refine Keeps.put ?_ (by assumption) (by simp only [n_bump, n_put, n_touch, n_kill] at *; omega)))) hE1
      have hN1 := hE1.n
      repeat (first | (refine aw_seq ?_) | (refine aw_reg0 (by simp only [SZ, Nat.reduceAdd]; exact rfl) ?_) | (refine aw_reg (by decide +kernel) (by simp only [SZ, Nat.reduceAdd]; exact rfl) ?_) | (refine aw_regS (by decide +kernel) (by simp only [SZ, Nat.reduceAdd]; exact rfl) ?_) | (refine aw_regN (by decide +kernel) (by simp only [SZ, Nat.reduceAdd]; exact rfl) (by repeat (first | assumption | (refine WF.bump ?_ _))) ?_) | (refine arl_nil ?_) | (refine aw_skip ?_) | (refine aw_block ?_) | (refine aw_exit ?_) | (refine aw_ret ?_) | (refine arl_cons rfl rfl (by simp +decide only [aop, abuiltin, aeval, aintBin, bin_int, aload_bump, SS, reduceIte, reduceCtorEq, f8, hwk]; exact rfl) (by first | rfl | with_reducible assumption) rfl ?_) | (refine arl_none rfl rfl (by simp +decide only [aop, abuiltin, aeval, aintBin, bin_int, aload_bump, SS, reduceIte, reduceCtorEq, f8, hwk]; exact rfl) rfl rfl ?_) | (refine arl_off rfl rfl ?_) | (refine aw_condT (by simp +decide only [aop, abuiltin, aeval, aintBin, bin_int, aload_bump, SS, reduceIte, reduceCtorEq, f8, hwk]; first | done | exact rfl) ?_) | (refine aw_condF (by simp +decide only [aop, abuiltin, aeval, aintBin, bin_int, aload_bump, SS, reduceIte, reduceCtorEq, f8, hwk]; first | done | exact rfl) ?_))
      refine ⟨ps.length - (k + 1), by omega, (hE.trans hE1).trans (by repeat (first | exact Keeps.refl _ _ | (refine Keeps.bumpR ?_ _))), k + 1, by omega, rfl, ?_, f6, f7, rfl⟩
      have e : (ps.take (k + 1)).flatten = (ps.take k).flatten ++ ps[k] := by rw [List.take_succ_eq_append_getElem hlt, List.flatten_append, List.flatten_singleton]
      rw [e]
      unfold crc
      rw [upd_append]
      rfl
    · have d1 : decide ((k : Int) < (ps.length : Int)) = false := decide_eq_false (by omega)
      obtain rfl : k = ps.length := by omega
      rw [List.take_length] at f3
      repeat (first | (refine aw_seq ?_) | (refine aw_reg0 (by simp only [SZ, Nat.reduceAdd]; exact rfl) ?_) | (refine aw_reg (by decide +kernel) (by simp only [SZ, Nat.reduceAdd]; exact rfl) ?_) | (refine aw_regS (by decide +kernel) (by simp only [SZ, Nat.reduceAdd]; exact rfl) ?_) | (refine aw_regN (by decide +kernel) (by simp only [SZ, Nat.reduceAdd]; exact rfl) (by repeat (first | assumption | (refine WF.bump ?_ _))) ?_) | (refine arl_nil ?_) | (refine aw_skip ?_) | (refine aw_block ?_) | (refine aw_exit ?_) | (refine aw_ret ?_) | (refine arl_cons rfl rfl (by simp +decide only [aop, abuiltin, aeval, aintBin, bin_int, aload_bump, SS, reduceIte, reduceCtorEq, f8, f7, d1, f3]; exact rfl) (by first | rfl | with_reducible assumption) rfl ?_) | (refine arl_none rfl rfl (by simp +decide only [aop, abuiltin, aeval, aintBin, bin_int, aload_bump, SS, reduceIte, reduceCtorEq, f8, f7, d1, f3]; exact rfl) rfl rfl ?_) | (refine arl_off rfl rfl ?_) | (refine aw_condT (by simp +decide only [aop, abuiltin, aeval, aintBin, bin_int, aload_bump, SS, reduceIte, reduceCtorEq, f8, f7, d1, f3]; first | done | exact rfl) ?_) | (refine aw_condF (by simp +decide only [aop, abuiltin, aeval, aintBin, bin_int, aload_bump, SS, reduceIte, reduceCtorEq, f8, f7, d1, f3]; first | done | exact rfl) ?_))
      exact ⟨.inr rfl, _, rfl, hE.trans (by repeat (first | exact Keeps.refl _ _ | (refine Keeps.bumpR ?_ _))), rfl⟩
  · exact ⟨(by repeat (first | exact Keeps.refl _ _ | (refine Keeps.bumpR ?_ _))), 0, by omega, rfl, by rw [List.take_zero, List.flatten_nil, crc_nil]; rfl, rfl, rfl, rfl⟩
end Go.Proofs.YtjpgpkkbmoehdaaDoor.Ra
