/- leatref05: Alike, Twin. -/
import Derived.Test.YtoohookgimkhbaaTg
namespace Go.Proofs.Ytoohookgimkhbaa.Ra
open Go Go.RowKit
set_option linter.unusedVariables false
set_option linter.unusedSimpArgs false
set_option maxRecDepth 10000
/-- The bytes as a string. -/
def bstr (xs : List Int) : ByteArray := xs.foldl (fun r n => r.push (UInt8.ofNat n.toNat)) ByteArray.empty
theorem str_of {st : St} {K : Nat → Prop} {v : AV} {xs : List Int} (h : RdB st K v xs) (id : Nat) : aconvert Try.prog st id 22 9 v = some (.pl (.string (bstr xs)), st) := by
  have hs : Try.prog.underlying 9 = some .string := Try.underlying9
  rcases h with ⟨rfl, ⟨q, c, rfl⟩ | ⟨i, off, b, rfl⟩⟩ | ⟨i, off, b, o, rfl, h2, h3, h4, h5⟩
  · simp only [aconvert, uB, hs, u5]; rfl
  · simp only [aconvert, uB, hs, u5]; rfl
  · simp only [aconvert, uB, hs, u5]
    by_cases h0 : xs.length = 0
    · have : xs = [] := List.eq_nil_of_length_eq_zero h0
      subst this
      rfl
    · rw [if_neg h0, h2]
      simp only
      rw [if_pos (.inr h4)]
      have e : (o.cells.drop off).take xs.length = xs.map u8 := by
        apply List.ext_getElem?
        intro j
        by_cases hj : j < xs.length
        · rw [List.getElem?_take, if_pos hj, List.getElem?_drop, h5 j xs[j] (List.getElem?_eq_getElem hj), List.getElem?_map, List.getElem?_eq_getElem hj]
          rfl
        · rw [List.getElem?_eq_none (by simp; omega), List.getElem?_eq_none (by simp; omega)]
      rw [e]
      have m : (xs.map u8).mapM anum = some xs := by
        clear e h5 h4 h2 h0
        induction xs with
        | nil => rfl
        | cons x xs ih =>
          rw [List.map_cons, List.mapM_cons, ih]
          rfl
      rw [m]
      rfl
theorem str_eq (b : ByteArray) (t : TypeId) : abin Try.prog .neq t (.pl (.string b)) (.pl (.string b)) = some (.bool false) := by simp [abin, astrBin]
/-- A token's fields at a place. -/
theorem tk_cells {st : St} {K : Nat → Prop} {v : AV} {os : List Tok} (h : RdE tokK st K v os) (j : Nat) (hj : j < os.length) :
    ∃ i off c, aindexAddr Try.prog 25 v (i64 j) = some (.ptr i off) ∧ aload Try.prog st 22 (.ptr i off) = some c ∧ aload Try.prog st 3 (.ptr i (off + 1)) = some (i64 os[j].2.1) ∧ aload Try.prog st 3 (.ptr i (off + 2)) = some (i64 os[j].2.2) ∧ RdB st K c os[j].1 ∧ c.solid = true := by
  obtain ⟨i, off, o, h1, h2, h3, h4, c, h5, h6⟩ := h.at TTK .i64 j hj
  have hs : tokK.s = 3 := rfl
  rw [hs] at h4 h5
  have g : ∀ q, q < 3 → o.cells[off + q]? = ([c, i64 os[j].2.1, i64 os[j].2.2] : List AV)[q]? := fun q hq => by
    rw [← h5, List.getElem?_take, if_pos hq, List.getElem?_drop]
  exact ⟨i, off, c, h1, ldB h2 (g 0 (by omega)), ldI h2 (g 1 (by omega)), ldI h2 (g 2 (by omega)), h6, h6.solid⟩
theorem alike_yes {st : St} (hw : WF st) {K K' : Nat → Prop} {v u : AV} {ts : List Tok} (h : RdE tokK st K v ts) (h' : RdE tokK st K' u ts) (hl : ts.length ≤ 140737488355327) :
    ACalls Try.prog 13 [v, u] st (fun r s => Ext st s ∧ r = .pl (.bool true)) := by
  have hvs := h.solid
  have hus := h'.solid
  have hln := RdE.len h TTK
  have hln' := RdE.len h' TTK
  have hbq : ((ts.length : Int) != (ts.length : Int)) = false := by simp
  refine acalls_of Try.func13 rfl (by kernel_rfl) (by simp [hvs, hus]) ?_
  repeat (first | (refine aw_seq ?_) | (refine aw_reg0 (by simp only [SZ, Nat.reduceAdd]; exact rfl) ?_) | (refine aw_reg (by decide +kernel) (by simp only [SZ, Nat.reduceAdd]; exact rfl) ?_) | (refine aw_regS (by decide +kernel) (by simp only [SZ, Nat.reduceAdd]; exact rfl) ?_) | (refine arl_nil ?_) | (refine aw_skip ?_) | (refine aw_block ?_) | (refine aw_exit ?_) | (refine aw_ret ?_) | (refine arl_cons rfl rfl (by simp +decide only [aop, abuiltin, aeval, aintBin, bin_int, aload_bump, SS, reduceIte, reduceCtorEq, hln, hln', hbq]; exact rfl) (by first | rfl | with_reducible assumption) rfl ?_) | (refine arl_none rfl rfl (by simp +decide only [aop, abuiltin, aeval, aintBin, bin_int, aload_bump, SS, reduceIte, reduceCtorEq, hln, hln', hbq]; exact rfl) rfl rfl ?_) | (refine arl_off rfl rfl ?_) | (refine aw_condT (by simp +decide only [aop, abuiltin, aeval, aintBin, bin_int, aload_bump, SS, reduceIte, reduceCtorEq, hln, hln', hbq]; first | done | exact rfl) ?_) | (refine aw_condF (by simp +decide only [aop, abuiltin, aeval, aintBin, bin_int, aload_bump, SS, reduceIte, reduceCtorEq, hln, hln', hbq]; first | done | exact rfl) ?_))
  refine aw_rounds_wf (fun m fr s => Ext st s ∧ ∃ k : Nat, k ≤ ts.length ∧ m = ts.length - k ∧ fr 0 = v ∧ fr 1 = u ∧ fr 5 = i64 k) ?_ ts.length _ _ (by repeat (first | assumption | (refine WF.bump ?_ _))) ?_
  · rintro m fr s hws ⟨hE, k, hk, rfl, f0, f1, f5⟩
    have hEn := hE.n
    by_cases hlt : k < ts.length
    · have hd : decide ((k : Int) < (ts.length : Int)) = true := decide_eq_true (by omega)
      obtain ⟨i, off, c, a1, a2, a3, a4, a5, a6⟩ := tk_cells (h.up hE) k hlt
      obtain ⟨i', off', c', b1, b2, b3, b4, b5, b6⟩ := tk_cells (h'.up hE) k hlt
      have q1 : (ts[k].2.1 != ts[k].2.1) = false := by simp
      have q2 : (ts[k].2.2 != ts[k].2.2) = false := by simp
      have s1 := fun (id : Nat) => str_of (a5.up (show Ext s ((s.bump 4).bump 39) from (by repeat (first | exact Keeps.refl _ _ | (refine Keeps.bumpR ?_ _))))) id
      have s2 := fun (id : Nat) => str_of (b5.up (show Ext s ((s.bump 4).bump 39) from (by repeat (first | exact Keeps.refl _ _ | (refine Keeps.bumpR ?_ _))))) id
      have hwk := wrap_succ (k := k) (by omega)
      have sq := str_eq (bstr ts[k].1) 9
      repeat (first | (refine aw_seq ?_) | (refine aw_reg0 (by simp only [SZ, Nat.reduceAdd]; exact rfl) ?_) | (refine aw_reg (by decide +kernel) (by simp only [SZ, Nat.reduceAdd]; exact rfl) ?_) | (refine aw_regS (by decide +kernel) (by simp only [SZ, Nat.reduceAdd]; exact rfl) ?_) | (refine arl_nil ?_) | (refine aw_skip ?_) | (refine aw_block ?_) | (refine aw_exit ?_) | (refine aw_ret ?_) | (refine arl_cons rfl rfl (by simp +decide only [aop, abuiltin, aeval, aintBin, bin_int, aload_bump, SS, reduceIte, reduceCtorEq, f0, f1, f5, hln, hd, a1, b1, faT0, faT1, faT2, a3, a4, b3, b4, q1, q2, a2, b2, s1, s2, sq, hwk]; exact rfl) (by first | rfl | with_reducible assumption) rfl ?_) | (refine arl_none rfl rfl (by simp +decide only [aop, abuiltin, aeval, aintBin, bin_int, aload_bump, SS, reduceIte, reduceCtorEq, f0, f1, f5, hln, hd, a1, b1, faT0, faT1, faT2, a3, a4, b3, b4, q1, q2, a2, b2, s1, s2, sq, hwk]; exact rfl) rfl rfl ?_) | (refine arl_off rfl rfl ?_) | (refine aw_condT (by simp +decide only [aop, abuiltin, aeval, aintBin, bin_int, aload_bump, SS, reduceIte, reduceCtorEq, f0, f1, f5, hln, hd, a1, b1, faT0, faT1, faT2, a3, a4, b3, b4, q1, q2, a2, b2, s1, s2, sq, hwk]; first | done | exact rfl) ?_) | (refine aw_condF (by simp +decide only [aop, abuiltin, aeval, aintBin, bin_int, aload_bump, SS, reduceIte, reduceCtorEq, f0, f1, f5, hln, hd, a1, b1, faT0, faT1, faT2, a3, a4, b3, b4, q1, q2, a2, b2, s1, s2, sq, hwk]; first | done | exact rfl) ?_))
      exact ⟨ts.length - (k + 1), by omega, hE.trans (by repeat (first | exact Keeps.refl _ _ | (refine Keeps.bumpR ?_ _))), k + 1, by omega, rfl, f0, f1, rfl⟩
    · have hd : decide ((k : Int) < (ts.length : Int)) = false := decide_eq_false (by omega)
      repeat (first | (refine aw_seq ?_) | (refine aw_reg0 (by simp only [SZ, Nat.reduceAdd]; exact rfl) ?_) | (refine aw_reg (by decide +kernel) (by simp only [SZ, Nat.reduceAdd]; exact rfl) ?_) | (refine aw_regS (by decide +kernel) (by simp only [SZ, Nat.reduceAdd]; exact rfl) ?_) | (refine arl_nil ?_) | (refine aw_skip ?_) | (refine aw_block ?_) | (refine aw_exit ?_) | (refine aw_ret ?_) | (refine arl_cons rfl rfl (by simp +decide only [aop, abuiltin, aeval, aintBin, bin_int, aload_bump, SS, reduceIte, reduceCtorEq, f0, f5, hln, hd]; exact rfl) (by first | rfl | with_reducible assumption) rfl ?_) | (refine arl_none rfl rfl (by simp +decide only [aop, abuiltin, aeval, aintBin, bin_int, aload_bump, SS, reduceIte, reduceCtorEq, f0, f5, hln, hd]; exact rfl) rfl rfl ?_) | (refine arl_off rfl rfl ?_) | (refine aw_condT (by simp +decide only [aop, abuiltin, aeval, aintBin, bin_int, aload_bump, SS, reduceIte, reduceCtorEq, f0, f5, hln, hd]; first | done | exact rfl) ?_) | (refine aw_condF (by simp +decide only [aop, abuiltin, aeval, aintBin, bin_int, aload_bump, SS, reduceIte, reduceCtorEq, f0, f5, hln, hd]; first | done | exact rfl) ?_))
      exact ⟨.inr rfl, _, rfl, hE.trans (by repeat (first | exact Keeps.refl _ _ | (refine Keeps.bumpR ?_ _))), rfl⟩
  · exact ⟨(by repeat (first | exact Keeps.refl _ _ | (refine Keeps.bumpR ?_ _))), 0, by omega, rfl, rfl, rfl, rfl⟩
theorem litT0 (id : Nat) : abuildSlice Try.prog 25 id 0 [] = some (.sl id 0 0 3, ⟨[], TK, true, id⟩) := lit_none TTK id
theorem litT1 (id : Nat) (c : AV) (d n : Int) : abuildSlice Try.prog 25 id 1 [(0, .agg [c, i64 d, i64 n])] = some (.sl id 0 1 3, ⟨[c, i64 d, i64 n], TK, true, id⟩) := lit_one TTK id (.agg [c, i64 d, i64 n]) rfl rfl (by decide)
theorem bldT {st : St} {K : Nat → Prop} {v : AV} {xs : List Int} (h : RdB st K v xs) (d n : Int) : abuild Try.prog TK [(0, v), (1, i64 d), (2, i64 n)] = some (.agg [v, i64 d, i64 n]) := by
  rcases h.isSl with ⟨q, m, c, rfl⟩ | ⟨i, off, m, es, rfl⟩ <;> kernel_rfl
end Go.Proofs.Ytoohookgimkhbaa.Ra
