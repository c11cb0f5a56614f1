/- leatref06: literals, Tokens. -/
import Derived.Test.YtoohookgimkhbaaWb
import Derived.Test.YtoohookgimkhbaaTh
namespace Go.Proofs.Ytoohookgimkhbaa.Ra
open Go Go.RowKit Pn
set_option linter.unusedVariables false
set_option linter.unusedSimpArgs false
set_option maxRecDepth 10000
theorem bldL {st : St} {K : Nat → Prop} {v : AV} {xs : List Int} (h : RdB st K v xs) : abuild Try.prog TK [(0, v)] = some (.agg [v, i64 0, i64 0]) := by
  rcases h.isSl with ⟨q, m, c, rfl⟩ | ⟨i, off, m, es, rfl⟩ <;> kernel_rfl
set_option maxHeartbeats 2000000 in
theorem rlits_ok {st : St} (hw : WF st) {Kb : Nat → Prop} {x v : AV} {b : List Int} {acc : List Tok} {g0 : Nat} (lo hi : Nat) (hx : OwX tokK st (fun g => g = g0) (fun _ g => g0 < g) TK x acc) (hxn : x ≠ .pl (.slice none 0 0)) (hg0 : g0 < st.n) (hb : RdB st Kb v b) (hd : ∀ g, Kb g → g ≠ g0) (hl : b.length ≤ 140737488355) (hlo : lo ≤ hi) (hhi : hi ≤ b.length) (hal : acc.length + b.length ≤ 1000000000000) :
    ACalls Try.prog 27 [x, v, i64 lo, i64 hi] st (fun r s => Keeps (fun g => g = g0) st s ∧ r.solid = true ∧ r ≠ .pl (.slice none 0 0) ∧ OwX tokK s (fun g => g = g0) (fun _ g => g0 < g) TK r (acc ++ pcs ((b.drop lo).take (hi - lo)))) := by
  replace hb := hb.lt hw
  have hxs := hx.solid
  have hvs := hb.solid
  refine acalls_of Try.func27 rfl (by kernel_rfl) (by simp [hxs, hvs]; exact ⟨rfl, rfl⟩) ?_
  repeat (first | (refine aw_seq ?_) | (refine aw_reg0 (by simp only [SZ, Nat.reduceAdd]; exact rfl) ?_) | (refine aw_reg (by decide +kernel) (by simp only [SZ, Nat.reduceAdd]; exact rfl) ?_) | (refine aw_regS (by decide +kernel) (by simp only [SZ, Nat.reduceAdd]; exact rfl) ?_) | (refine arl_nil ?_) | (refine aw_skip ?_) | (refine aw_block ?_) | (refine aw_exit ?_) | (refine aw_ret ?_) | (refine arl_cons rfl rfl (by simp +decide only [aop, abuiltin, aeval, aintBin, bin_int, aload_bump, SS, reduceIte, reduceCtorEq]; exact rfl) (by first | rfl | with_reducible assumption) rfl ?_) | (refine arl_none rfl rfl (by simp +decide only [aop, abuiltin, aeval, aintBin, bin_int, aload_bump, SS, reduceIte, reduceCtorEq]; exact rfl) rfl rfl ?_) | (refine arl_off rfl rfl ?_) | (refine aw_condT (by simp +decide only [aop, abuiltin, aeval, aintBin, bin_int, aload_bump, SS, reduceIte, reduceCtorEq]; first | done | exact rfl) ?_) | (refine aw_condF (by simp +decide only [aop, abuiltin, aeval, aintBin, bin_int, aload_bump, SS, reduceIte, reduceCtorEq]; first | done | exact rfl) ?_))
  refine aw_rounds_wf (fun m fr s => Keeps (fun g => g = g0) st s ∧ ∃ (k : Nat) (ac : List Tok), lo ≤ k ∧ k ≤ hi ∧ m = hi - k ∧ ac.length ≤ acc.length + (k - lo) ∧ fr 1 = v ∧ fr 2 = i64 k ∧ fr 3 = i64 hi ∧ fr 0 ≠ .pl (.slice none 0 0) ∧ OwX tokK s (fun g => g = g0) (fun _ g => g0 < g) TK (fr 0) ac ∧ acc ++ pcs ((b.drop lo).take (hi - lo)) = ac ++ pcs ((b.drop k).take (hi - k))) ?_ (hi - lo) _ _ (by repeat (first | assumption | (refine WF.bump ?_ _))) ?_
  · rintro m fr sx hws ⟨hE, k, ac, hlk, hkh, rfl, hacl, f1, f2, f3, fn, hO, hlt⟩
    have hEn := hE.n
    have hos := hO.solid
    by_cases hkk : k < hi
    · have d1 : decide ((k : Int) < (hi : Int)) = true := decide_eq_true (by omega)
      have hb2 := hb.keep hE (fun g h => hd g h.1)
      have hsl : ((b.drop k).take (hi - k)).length = hi - k := by simp; omega
      have hne : (b.drop k).take (hi - k) ≠ [] := fun e => by rw [e] at hsl; simp at hsl; omega
      rw [pcs_step _ hne] at hlt
      obtain ⟨tv, f0⟩ : ∃ x, fr 0 = x := ⟨_, rfl⟩
      rw [f0] at fn hO hos
      repeat (first | (refine aw_seq ?_) | (refine aw_reg0 (by simp only [SZ, Nat.reduceAdd]; exact rfl) ?_) | (refine aw_reg (by decide +kernel) (by simp only [SZ, Nat.reduceAdd]; exact rfl) ?_) | (refine aw_regS (by decide +kernel) (by simp only [SZ, Nat.reduceAdd]; exact rfl) ?_) | (refine arl_nil ?_) | (refine aw_skip ?_) | (refine aw_block ?_) | (refine aw_exit ?_) | (refine aw_ret ?_) | (refine arl_cons rfl rfl (by simp +decide only [aop, abuiltin, aeval, aintBin, bin_int, aload_bump, SS, reduceIte, reduceCtorEq, f2, f3, d1, lit0]; exact rfl) (by first | rfl | with_reducible assumption) rfl ?_) | (refine arl_none rfl rfl (by simp +decide only [aop, abuiltin, aeval, aintBin, bin_int, aload_bump, SS, reduceIte, reduceCtorEq, f2, f3, d1, lit0]; exact rfl) rfl rfl ?_) | (refine arl_off rfl rfl ?_) | (refine aw_condT (by simp +decide only [aop, abuiltin, aeval, aintBin, bin_int, aload_bump, SS, reduceIte, reduceCtorEq, f2, f3, d1, lit0]; first | done | exact rfl) ?_) | (refine aw_condF (by simp +decide only [aop, abuiltin, aeval, aintBin, bin_int, aload_bump, SS, reduceIte, reduceCtorEq, f2, f3, d1, lit0]; first | done | exact rfl) ?_))
      refine AW.mono (AW.wf (aw_rounds_wf (fun m fr' s' => Ext sx s' ∧ ∃ n : Nat, n ≤ 128 ∧ k + n ≤ hi ∧ m = 128 - n ∧ fr' 0 = tv ∧ fr' 1 = v ∧ fr' 2 = i64 ((k + n : Nat) : Int) ∧ fr' 3 = i64 hi ∧ OwB s' (fun g => sx.n ≤ g) (fr' 9) ((b.drop k).take n))
        (Q := fun e fr' s' => e = .exit 2 ∧ Ext sx s' ∧ ∃ n : Nat, n ≤ 128 ∧ k + n ≤ hi ∧ (n = 128 ∨ k + n = hi) ∧ fr' 0 = tv ∧ fr' 1 = v ∧ fr' 2 = i64 ((k + n : Nat) : Int) ∧ fr' 3 = i64 hi ∧ OwB s' (fun g => sx.n ≤ g) (fr' 9) ((b.drop k).take n)) ?_ 128 _ _ (by repeat (first | assumption | (refine WF.bump ?_ _) | (refine WF.put ?_ (by simp only [n_bump, n_put, n_touch, n_kill] at *; omega) (by simp only [n_bump, n_put, n_touch, n_kill] at *; omega)))) ?_) (by repeat (first | assumption | (refine WF.bump ?_ _) | (refine WF.put ?_ (by simp only [n_bump, n_put, n_touch, n_kill] at *; omega) (by simp only [n_bump, n_put, n_touch, n_kill] at *; omega))))) ?_
      · rintro m fr s' hws' ⟨hE', n, hn, hkn, rfl, f0, f1, f2, f3, hB⟩
        have hBs := hB.solid
        have hBl := hB.rd.len
        have htl : ((b.drop k).take n).length = n := by simp; omega
        rw [htl] at hBl
        have hEn' := hE'.n
        by_cases hn8 : n < 128
        · have d2 : decide ((n : Int) < 128) = true := decide_eq_true (by omega)
          by_cases hkh2 : k + n < hi
          · have d3 : decide (((k + n : Nat) : Int) < (hi : Int)) = true := decide_eq_true (by omega)
            obtain ⟨p, a1, a2, a3⟩ := (hb2.up hE').atN .i64 (k + n) (by omega)
            have hwk := wrap_succ (k := k + n) (by omega)
            repeat (first | (refine aw_seq ?_) | (refine aw_reg0 (by simp only [SZ, Nat.reduceAdd]; exact rfl) ?_) | (refine aw_reg (by decide +kernel) (by simp only [SZ, Nat.reduceAdd]; exact rfl) ?_) | (refine aw_regS (by decide +kernel) (by simp only [SZ, Nat.reduceAdd]; exact rfl) ?_) | (refine arl_nil ?_) | (refine aw_skip ?_) | (refine aw_block ?_) | (refine aw_exit ?_) | (refine aw_ret ?_) | (refine arl_cons rfl rfl (by simp +decide only [aop, abuiltin, aeval, aintBin, bin_int, aload_bump, SS, reduceIte, reduceCtorEq, hBl, d2, f2, f3, d3, f1, a1, a3, lit1]; exact rfl) (by first | rfl | with_reducible assumption) rfl ?_) | (refine arl_none rfl rfl (by simp +decide only [aop, abuiltin, aeval, aintBin, bin_int, aload_bump, SS, reduceIte, reduceCtorEq, hBl, d2, f2, f3, d3, f1, a1, a3, lit1]; exact rfl) rfl rfl ?_) | (refine arl_off rfl rfl ?_) | (refine aw_condT (by simp +decide only [aop, abuiltin, aeval, aintBin, bin_int, aload_bump, SS, reduceIte, reduceCtorEq, hBl, d2, f2, f3, d3, f1, a1, a3, lit1]; first | done | exact rfl) ?_) | (refine aw_condF (by simp +decide only [aop, abuiltin, aeval, aintBin, bin_int, aload_bump, SS, reduceIte, reduceCtorEq, hBl, d2, f2, f3, d3, f1, a1, a3, lit1]; first | done | exact rfl) ?_))
            refine arl_appW (K := fun g => sx.n ≤ g) (K' := fun _ => True) (xs := (b.drop k).take n) (ns := [b[k + n]]) rfl rfl rfl (hB.keep (G := fun _ => False) (by repeat (first | assumption | exact Keeps.refl _ _ | (refine Keeps.bumpR ?_ _) | (refine Keeps.put ?_ (by assumption) (by simp only [n_bump, n_put, n_touch, n_kill] at *; omega)))) (fun _ _ h => h)) (RdB.lit _ _ _ [_]) (by simp only [n_bump, n_put, n_touch, n_kill] at *; omega) (by simp; omega) ?_
            intro y s2 hO2 hn2 hK2 hwf2
            have hys := hO2.solid
            have hS2 := hK2 (fun _ => False) sx hws (by repeat (first | assumption | exact Keeps.refl _ _ | (refine Keeps.bumpR ?_ _) | (refine Keeps.put ?_ (by assumption) (by simp only [n_bump, n_put, n_touch, n_kill] at *; omega)))) (by simp only [n_bump, n_put, n_touch, n_kill] at *; omega) (fun g hg => .inr hg)
            repeat (first | (refine aw_seq ?_) | (refine aw_reg0 (by simp only [SZ, Nat.reduceAdd]; exact rfl) ?_) | (refine aw_reg (by decide +kernel) (by simp only [SZ, Nat.reduceAdd]; exact rfl) ?_) | (refine aw_regS (by decide +kernel) (by simp only [SZ, Nat.reduceAdd]; exact rfl) ?_) | (refine arl_nil ?_) | (refine aw_skip ?_) | (refine aw_block ?_) | (refine aw_exit ?_) | (refine aw_ret ?_) | (refine arl_cons rfl rfl (by simp +decide only [aop, abuiltin, aeval, aintBin, bin_int, aload_bump, SS, reduceIte, reduceCtorEq, f2, hwk]; exact rfl) (by first | rfl | with_reducible assumption) rfl ?_) | (refine arl_none rfl rfl (by simp +decide only [aop, abuiltin, aeval, aintBin, bin_int, aload_bump, SS, reduceIte, reduceCtorEq, f2, hwk]; exact rfl) rfl rfl ?_) | (refine arl_off rfl rfl ?_) | (refine aw_condT (by simp +decide only [aop, abuiltin, aeval, aintBin, bin_int, aload_bump, SS, reduceIte, reduceCtorEq, f2, hwk]; first | done | exact rfl) ?_) | (refine aw_condF (by simp +decide only [aop, abuiltin, aeval, aintBin, bin_int, aload_bump, SS, reduceIte, reduceCtorEq, f2, hwk]; first | done | exact rfl) ?_))
            refine ⟨128 - (n + 1), by omega, hS2.trans (by repeat (first | exact Keeps.refl _ _ | (refine Keeps.bumpR ?_ _))), n + 1, by omega, by omega, rfl, f0, f1, rfl, f3, ?_⟩
            have e : (b.drop k).take (n + 1) = (b.drop k).take n ++ [b[k + n]] := by
              rw [List.take_succ_eq_append_getElem (by rw [List.length_drop]; omega), List.getElem_drop]
            rw [e]
            exact hO2.up (by repeat (first | exact Keeps.refl _ _ | (refine Keeps.bumpR ?_ _)))
          · have d3 : decide (((k + n : Nat) : Int) < (hi : Int)) = false := decide_eq_false (by omega)
            repeat (first | (refine aw_seq ?_) | (refine aw_reg0 (by simp only [SZ, Nat.reduceAdd]; exact rfl) ?_) | (refine aw_reg (by decide +kernel) (by simp only [SZ, Nat.reduceAdd]; exact rfl) ?_) | (refine aw_regS (by decide +kernel) (by simp only [SZ, Nat.reduceAdd]; exact rfl) ?_) | (refine arl_nil ?_) | (refine aw_skip ?_) | (refine aw_block ?_) | (refine aw_exit ?_) | (refine aw_ret ?_) | (refine arl_cons rfl rfl (by simp +decide only [aop, abuiltin, aeval, aintBin, bin_int, aload_bump, SS, reduceIte, reduceCtorEq, hBl, d2, f2, f3, d3]; exact rfl) (by first | rfl | with_reducible assumption) rfl ?_) | (refine arl_none rfl rfl (by simp +decide only [aop, abuiltin, aeval, aintBin, bin_int, aload_bump, SS, reduceIte, reduceCtorEq, hBl, d2, f2, f3, d3]; exact rfl) rfl rfl ?_) | (refine arl_off rfl rfl ?_) | (refine aw_condT (by simp +decide only [aop, abuiltin, aeval, aintBin, bin_int, aload_bump, SS, reduceIte, reduceCtorEq, hBl, d2, f2, f3, d3]; first | done | exact rfl) ?_) | (refine aw_condF (by simp +decide only [aop, abuiltin, aeval, aintBin, bin_int, aload_bump, SS, reduceIte, reduceCtorEq, hBl, d2, f2, f3, d3]; first | done | exact rfl) ?_))
            exact ⟨rfl, hE'.trans (by repeat (first | exact Keeps.refl _ _ | (refine Keeps.bumpR ?_ _))), n, hn, hkn, .inr (by omega), f0, f1, f2, f3, hB.up (by repeat (first | exact Keeps.refl _ _ | (refine Keeps.bumpR ?_ _)))⟩
        · have d2 : decide ((n : Int) < 128) = false := decide_eq_false (by omega)
          repeat (first | (refine aw_seq ?_) | (refine aw_reg0 (by simp only [SZ, Nat.reduceAdd]; exact rfl) ?_) | (refine aw_reg (by decide +kernel) (by simp only [SZ, Nat.reduceAdd]; exact rfl) ?_) | (refine aw_regS (by decide +kernel) (by simp only [SZ, Nat.reduceAdd]; exact rfl) ?_) | (refine arl_nil ?_) | (refine aw_skip ?_) | (refine aw_block ?_) | (refine aw_exit ?_) | (refine aw_ret ?_) | (refine arl_cons rfl rfl (by simp +decide only [aop, abuiltin, aeval, aintBin, bin_int, aload_bump, SS, reduceIte, reduceCtorEq, hBl, d2]; exact rfl) (by first | rfl | with_reducible assumption) rfl ?_) | (refine arl_none rfl rfl (by simp +decide only [aop, abuiltin, aeval, aintBin, bin_int, aload_bump, SS, reduceIte, reduceCtorEq, hBl, d2]; exact rfl) rfl rfl ?_) | (refine arl_off rfl rfl ?_) | (refine aw_condT (by simp +decide only [aop, abuiltin, aeval, aintBin, bin_int, aload_bump, SS, reduceIte, reduceCtorEq, hBl, d2]; first | done | exact rfl) ?_) | (refine aw_condF (by simp +decide only [aop, abuiltin, aeval, aintBin, bin_int, aload_bump, SS, reduceIte, reduceCtorEq, hBl, d2]; first | done | exact rfl) ?_))
          exact ⟨rfl, hE'.trans (by repeat (first | exact Keeps.refl _ _ | (refine Keeps.bumpR ?_ _))), n, hn, hkn, .inl (by omega), f0, f1, f2, f3, hB.up (by repeat (first | exact Keeps.refl _ _ | (refine Keeps.bumpR ?_ _)))⟩
      · exact ⟨(by repeat (first | assumption | exact Keeps.refl _ _ | (refine Keeps.bumpR ?_ _) | (refine Keeps.put ?_ (by assumption) (by simp only [n_bump, n_put, n_touch, n_kill] at *; omega)))), 0, by omega, by omega, rfl, f0, f1, f2, f3, ((OwB.new _ (get_put _ _)).mono (fun g (h : g = _) => by rw [h]; exact (by first | omega | (simp only [n_bump, n_put]; omega) | (simp only [n_bump, n_put] at *; omega)))).up (by repeat (first | exact Keeps.refl _ _ | (refine Keeps.bumpR ?_ _)))⟩
      rintro e2 fr2 s2 ⟨hw2, hn2, rfl, hE2, n, hn, hkn, hor, f0, f1, f2, f3, hB⟩
      have hEn2 := hE2.n
      obtain ⟨lv, f9⟩ : ∃ x, fr2 9 = x := ⟨_, rfl⟩
      rw [f9] at hB
      replace hB := hB.lt hw2
      have hBs := hB.solid
      have hbl := bldL hB.rd
      have e1 : ((b.drop k).take (hi - k)).take 128 = (b.drop k).take n := by
        rw [List.take_take]
        congr 1 <;> omega
      have e2 : ((b.drop k).take (hi - k)).drop 128 = (b.drop (k + n)).take (hi - (k + n)) := by
        rcases hor with h | h
        · rw [List.drop_take, List.drop_drop, h]
          congr 1 <;> omega
        · rw [List.drop_of_length_le (by rw [hsl]; omega), h, Nat.sub_self, List.take_zero]
      rw [e1, e2] at hlt
      repeat (first | (refine aw_seq ?_) | (refine aw_reg0 (by simp only [SZ, Nat.reduceAdd]; exact rfl) ?_) | (refine aw_reg (by decide +kernel) (by simp only [SZ, Nat.reduceAdd]; exact rfl) ?_) | (refine aw_regS (by decide +kernel) (by simp only [SZ, Nat.reduceAdd]; exact rfl) ?_) | (refine arl_nil ?_) | (refine aw_skip ?_) | (refine aw_block ?_) | (refine aw_exit ?_) | (refine aw_ret ?_) | (refine arl_cons rfl rfl (by simp +decide only [aop, abuiltin, aeval, aintBin, bin_int, aload_bump, SS, reduceIte, reduceCtorEq, f0, f9, hbl, litT1]; exact rfl) (by first | rfl | with_reducible assumption) rfl ?_) | (refine arl_none rfl rfl (by simp +decide only [aop, abuiltin, aeval, aintBin, bin_int, aload_bump, SS, reduceIte, reduceCtorEq, f0, f9, hbl, litT1]; exact rfl) rfl rfl ?_) | (refine arl_off rfl rfl ?_) | (refine aw_condT (by simp +decide only [aop, abuiltin, aeval, aintBin, bin_int, aload_bump, SS, reduceIte, reduceCtorEq, f0, f9, hbl, litT1]; first | done | exact rfl) ?_) | (refine aw_condF (by simp +decide only [aop, abuiltin, aeval, aintBin, bin_int, aload_bump, SS, reduceIte, reduceCtorEq, f0, f9, hbl, litT1]; first | done | exact rfl) ?_))
      refine arl_appX (k := tokK) (K0 := fun g => g = g0) (L0 := fun _ g => g0 < g) (Kx := fun _ => True) (Kn := fun g => sx.n ≤ g ∧ g < s2.n) (K := fun g => g = g0) (L := fun _ g => g0 < g) (xs := ac) (ns := [((b.drop k).take n, 0, 0)]) TTK rfl rfl rfl ((hO.up hE2).up (by repeat (first | assumption | exact Keeps.refl _ _ | (refine Keeps.bumpR ?_ _) | (refine Keeps.put ?_ (by assumption) (by simp only [n_bump, n_put, n_touch, n_kill] at *; omega))))) (RdL.one ⟨lv, rfl, hB.rd.up (by repeat (first | assumption | exact Keeps.refl _ _ | (refine Keeps.bumpR ?_ _) | (refine Keeps.put ?_ (by assumption) (by simp only [n_bump, n_put, n_touch, n_kill] at *; omega))))⟩ rfl _ trivial _) (fun g h h' => by omega) ⟨fun h => by have := h.2; omega, fun h => absurd h fn⟩ (fun _ h => h) (fun _ _ _ h => h) (fun _ g _ _ h => by have := h.1; omega) ?hfr (by simp; omega) (by simp; omega) ?_
      case hfr =>
        rw [get_put_ne _ (by omega)]
        exact fresh hw2 (by first | omega | (simp only [n_bump, n_put]; omega) | (simp only [n_bump, n_put] at *; omega))
      intro y s3 hO3 hn3 hK3 hwf3
      have hys := hO3.solid
      have hyn := hO3.ne
      replace hK3 : Keeps (fun g => g = g0) s2 s3 := Keeps.trans (Keeps.mono (G := fun _ => False) (show Ext s2 _ from (by repeat (first | assumption | exact Keeps.refl _ _ | (refine Keeps.bumpR ?_ _) | (refine Keeps.put ?_ (by assumption) (by simp only [n_bump, n_put, n_touch, n_kill] at *; omega))))) (fun _ h => h.elim)) hK3
      repeat (first | (refine aw_seq ?_) | (refine aw_reg0 (by simp only [SZ, Nat.reduceAdd]; exact rfl) ?_) | (refine aw_reg (by decide +kernel) (by simp only [SZ, Nat.reduceAdd]; exact rfl) ?_) | (refine aw_regS (by decide +kernel) (by simp only [SZ, Nat.reduceAdd]; exact rfl) ?_) | (refine arl_nil ?_) | (refine aw_skip ?_) | (refine aw_block ?_) | (refine aw_exit ?_) | (refine aw_ret ?_) | (refine arl_cons rfl rfl (by simp +decide only [aop, abuiltin, aeval, aintBin, bin_int, aload_bump, SS, reduceIte, reduceCtorEq]; exact rfl) (by first | rfl | with_reducible assumption) rfl ?_) | (refine arl_none rfl rfl (by simp +decide only [aop, abuiltin, aeval, aintBin, bin_int, aload_bump, SS, reduceIte, reduceCtorEq]; exact rfl) rfl rfl ?_) | (refine arl_off rfl rfl ?_) | (refine aw_condT (by simp +decide only [aop, abuiltin, aeval, aintBin, bin_int, aload_bump, SS, reduceIte, reduceCtorEq]; first | done | exact rfl) ?_) | (refine aw_condF (by simp +decide only [aop, abuiltin, aeval, aintBin, bin_int, aload_bump, SS, reduceIte, reduceCtorEq]; first | done | exact rfl) ?_))
      refine ⟨hi - (k + n), by omega, (hE.trans (hE2.mono (fun _ h => h.elim))).trans (hK3.trans (Keeps.mono (G := fun _ => False) (by repeat (first | exact Keeps.refl _ _ | (refine Keeps.bumpR ?_ _))) (fun _ h => h.elim))), k + n, _, by omega, hkn, rfl, ?_, f1, f2, f3, hyn, hO3.up (by repeat (first | exact Keeps.refl _ _ | (refine Keeps.bumpR ?_ _))), ?_⟩
      · simp; omega
      · rw [hlt, List.append_assoc]
        rfl
    · have d1 : decide ((k : Int) < (hi : Int)) = false := decide_eq_false (by omega)
      obtain rfl : k = hi := by omega
      rw [Nat.sub_self, List.take_zero, pcs_nil, List.append_nil] at hlt
      repeat (first | (refine aw_seq ?_) | (refine aw_reg0 (by simp only [SZ, Nat.reduceAdd]; exact rfl) ?_) | (refine aw_reg (by decide +kernel) (by simp only [SZ, Nat.reduceAdd]; exact rfl) ?_) | (refine aw_regS (by decide +kernel) (by simp only [SZ, Nat.reduceAdd]; exact rfl) ?_) | (refine arl_nil ?_) | (refine aw_skip ?_) | (refine aw_block ?_) | (refine aw_exit ?_) | (refine aw_ret ?_) | (refine arl_cons rfl rfl (by simp +decide only [aop, abuiltin, aeval, aintBin, bin_int, aload_bump, SS, reduceIte, reduceCtorEq, f2, f3, d1]; exact rfl) (by first | rfl | with_reducible assumption) rfl ?_) | (refine arl_none rfl rfl (by simp +decide only [aop, abuiltin, aeval, aintBin, bin_int, aload_bump, SS, reduceIte, reduceCtorEq, f2, f3, d1]; exact rfl) rfl rfl ?_) | (refine arl_off rfl rfl ?_) | (refine aw_condT (by simp +decide only [aop, abuiltin, aeval, aintBin, bin_int, aload_bump, SS, reduceIte, reduceCtorEq, f2, f3, d1]; first | done | exact rfl) ?_) | (refine aw_condF (by simp +decide only [aop, abuiltin, aeval, aintBin, bin_int, aload_bump, SS, reduceIte, reduceCtorEq, f2, f3, d1]; first | done | exact rfl) ?_))
      refine ⟨.inr rfl, _, rfl, hE.trans (Keeps.mono (G := fun _ => False) (by repeat (first | exact Keeps.refl _ _ | (refine Keeps.bumpR ?_ _))) (fun _ h => h.elim)), hos, fn, ?_⟩
      rw [hlt]
      exact hO.up (by repeat (first | exact Keeps.refl _ _ | (refine Keeps.bumpR ?_ _)))
  · exact ⟨Keeps.mono (G := fun _ => False) (by repeat (first | exact Keeps.refl _ _ | (refine Keeps.bumpR ?_ _))) (fun _ h => h.elim), lo, acc, by omega, hlo, rfl, by omega, rfl, rfl, rfl, hxn, hx.up (by repeat (first | exact Keeps.refl _ _ | (refine Keeps.bumpR ?_ _))), rfl⟩
theorem chunks_len : ∀ (f : Nat) (l : List Int), (chunks f l).length ≤ l.length := by
  intro f
  induction f with
  | zero => intro l; simp [chunks]
  | succ f ih =>
    intro l
    rw [chunks]
    split
    · simp
    · rename_i h
      have h1 := ih (l.drop 128)
      rw [List.length_drop] at h1
      have h2 : 0 < l.length := List.length_pos_iff.2 h
      rw [List.length_cons]
      omega
theorem pcs_len (l : List Int) : (pcs l).length ≤ l.length := chunks_len _ l
/-- What the reference's 'Tokens' answers. -/
def rtoks (b : List Int) (depth : Int) : Int × List Tok := if 32768 < b.length then (4, []) else (0, grd b (min depth 32) b.length 0 0 [])
set_option maxHeartbeats 2000000 in
theorem rTokens_ok {st : St} (hw : WF st) {K : Nat → Prop} {v : AV} {b : List Int} (depth : Int) (h : RdB st K v b) (hl : b.length ≤ 1048576) :
    ACalls Try.prog 11 [v, i64 depth] st (fun r s => Ext st s ∧ ∃ x, r = .tup [x, i64 (rtoks b depth).1] ∧ x.solid = true ∧ RdE tokK s (fun g => st.n ≤ g) x (rtoks b depth).2) := by
  replace h := h.lt hw
  have hvs := h.solid
  have hln := h.len
  refine acalls_of Try.func11 rfl (by kernel_rfl) (by simp [hvs]; rfl) ?_
  unfold rtoks
  by_cases hbig : 32768 < b.length
  · have d1 : decide ((b.length : Int) > 32768) = true := decide_eq_true (by omega)
    rw [if_pos hbig]
    repeat (first | (refine aw_seq ?_) | (refine aw_reg0 (by simp only [SZ, Nat.reduceAdd]; exact rfl) ?_) | (refine aw_reg (by decide +kernel) (by simp only [SZ, Nat.reduceAdd]; exact rfl) ?_) | (refine aw_regS (by decide +kernel) (by simp only [SZ, Nat.reduceAdd]; exact rfl) ?_) | (refine arl_nil ?_) | (refine aw_skip ?_) | (refine aw_block ?_) | (refine aw_exit ?_) | (refine aw_ret ?_) | (refine arl_cons rfl rfl (by simp +decide only [aop, abuiltin, aeval, aintBin, bin_int, aload_bump, SS, reduceIte, reduceCtorEq, hln, d1]; exact rfl) (by first | rfl | with_reducible assumption) rfl ?_) | (refine arl_none rfl rfl (by simp +decide only [aop, abuiltin, aeval, aintBin, bin_int, aload_bump, SS, reduceIte, reduceCtorEq, hln, d1]; exact rfl) rfl rfl ?_) | (refine arl_off rfl rfl ?_) | (refine aw_condT (by simp +decide only [aop, abuiltin, aeval, aintBin, bin_int, aload_bump, SS, reduceIte, reduceCtorEq, hln, d1]; first | done | exact rfl) ?_) | (refine aw_condF (by simp +decide only [aop, abuiltin, aeval, aintBin, bin_int, aload_bump, SS, reduceIte, reduceCtorEq, hln, d1]; first | done | exact rfl) ?_))
    exact ⟨.inr rfl, _, rfl, (by repeat (first | exact Keeps.refl _ _ | (refine Keeps.bumpR ?_ _))), _, rfl, rfl, .inl ⟨rfl, .inl ⟨_, _, rfl⟩⟩⟩
  · have d1 : decide ((b.length : Int) > 32768) = false := decide_eq_false (by omega)
    rw [if_neg hbig]
    obtain ⟨bq, kk, q1, hD⟩ : ∃ (bq : Bool) (kk : Nat), decide (depth > 32) = bq ∧ ((bq = true ∧ min depth 32 = 32 ∧ kk = 8) ∨ (bq = false ∧ min depth 32 = depth ∧ kk = 7)) := by
      by_cases hq : depth > 32
      · exact ⟨_, 8, rfl, .inl ⟨decide_eq_true hq, by omega, rfl⟩⟩
      · exact ⟨_, 7, rfl, .inr ⟨decide_eq_false hq, by omega, rfl⟩⟩
    rcases hD with ⟨rfl, hD, hkk⟩ | ⟨rfl, hD, hkk⟩
    all_goals
      repeat (first | (refine aw_seq ?_) | (refine aw_reg0 (by simp only [SZ, Nat.reduceAdd]; exact rfl) ?_) | (refine aw_reg (by decide +kernel) (by simp only [SZ, Nat.reduceAdd]; exact rfl) ?_) | (refine aw_regS (by decide +kernel) (by simp only [SZ, Nat.reduceAdd]; exact rfl) ?_) | (refine arl_nil ?_) | (refine aw_skip ?_) | (refine aw_block ?_) | (refine aw_exit ?_) | (refine aw_ret ?_) | (refine arl_cons rfl rfl (by simp +decide only [aop, abuiltin, aeval, aintBin, bin_int, aload_bump, SS, reduceIte, reduceCtorEq, hln, d1, q1, litT0]; exact rfl) (by first | rfl | with_reducible assumption) rfl ?_) | (refine arl_none rfl rfl (by simp +decide only [aop, abuiltin, aeval, aintBin, bin_int, aload_bump, SS, reduceIte, reduceCtorEq, hln, d1, q1, litT0]; exact rfl) rfl rfl ?_) | (refine arl_off rfl rfl ?_) | (refine aw_condT (by simp +decide only [aop, abuiltin, aeval, aintBin, bin_int, aload_bump, SS, reduceIte, reduceCtorEq, hln, d1, q1, litT0]; first | done | exact rfl) ?_) | (refine aw_condF (by simp +decide only [aop, abuiltin, aeval, aintBin, bin_int, aload_bump, SS, reduceIte, reduceCtorEq, hln, d1, q1, litT0]; first | done | exact rfl) ?_))
      refine aw_hide ?_
      intro s0 hs0
      obtain ⟨hg1, hE0, hw0, hO0⟩ : st.n + kk < s0.n ∧ Ext st s0 ∧ WF s0 ∧ OwX tokK s0 (fun g => g = st.n + kk) (fun _ g => st.n + kk < g) TK (.sl (st.n + kk) 0 0 3) [] := by
        rw [hs0, hkk]
        exact ⟨(by first | omega | (simp only [n_bump, n_put]; omega) | (simp only [n_bump, n_put] at *; omega)), (by repeat (first | assumption | exact Keeps.refl _ _ | (refine Keeps.bumpR ?_ _) | (refine Keeps.put ?_ (by assumption) (by simp only [n_bump, n_put, n_touch, n_kill] at *; omega)))), (by repeat (first | assumption | (refine WF.bump ?_ _) | (refine WF.put ?_ (by simp only [n_bump, n_put, n_touch, n_kill] at *; omega) (by simp only [n_bump, n_put, n_touch, n_kill] at *; omega)))), OwX.new' (k := tokK) _ (get_put _ _)⟩
      obtain ⟨g0, hg0, hgs⟩ : ∃ g0, st.n ≤ g0 ∧ g0 = st.n + kk := ⟨_, by omega, rfl⟩
      rw [← hgs] at hg1 hO0
      have hN0 := hE0.n
      refine aw_rounds_wf (fun m fr s => Keeps (fun g => g = g0) s0 s ∧ ∃ (n i from_ : Nat) (acc : List Tok), i ≤ b.length ∧ from_ ≤ i ∧ b.length ≤ n + i ∧ m = b.length - i ∧ acc.length ≤ 2 * from_ ∧ fr 0 = v ∧ fr 1 = i64 (min depth 32) ∧ fr 7 = i64 from_ ∧ fr 8 = i64 i ∧ fr 6 ≠ .pl (.slice none 0 0) ∧ OwX tokK s (fun g => g = g0) (fun _ g => g0 < g) TK (fr 6) acc ∧ grd b (min depth 32) b.length 0 0 [] = grd b (min depth 32) n from_ i acc) ?_ b.length _ _ (by repeat (first | assumption | (refine WF.bump ?_ _))) ?_
      · rintro m fr sx hws ⟨hE, n, i, from_, acc, hi, hfi, hni, rfl, hal, f0, f1, f7, f8, fn, hO, hg⟩
        have hEn := hE.n
        have hos := hO.solid
        have hSx : Ext st sx := Keeps.call hE0 hE hw (fun g h => .inr (by omega))
        have hbx := (h.up hE0).keep hE (fun g hg he => by have := hg.2; omega)
        obtain ⟨tv, f6⟩ : ∃ x, fr 6 = x := ⟨_, rfl⟩
        have fn' := fn
        have hO' := hO
        rw [f6] at fn' hO' hos
        by_cases hlt : i < b.length
        · have d2 : decide ((i : Int) < (b.length : Int)) = true := decide_eq_true (by omega)
          obtain ⟨n, rfl⟩ : ∃ q, n = q + 1 := ⟨n - 1, by omega⟩
          rw [grd, if_pos hlt] at hg
          have hok := bst_ok b i i (min depth 32) (0, 0) (Nat.le_refl _) (.inl rfl)
          have hwk := wrap_succ (k := i) (by omega)
          repeat (first | (refine aw_seq ?_) | (refine aw_reg0 (by simp only [SZ, Nat.reduceAdd]; exact rfl) ?_) | (refine aw_reg (by decide +kernel) (by simp only [SZ, Nat.reduceAdd]; exact rfl) ?_) | (refine aw_regS (by decide +kernel) (by simp only [SZ, Nat.reduceAdd]; exact rfl) ?_) | (refine arl_nil ?_) | (refine aw_skip ?_) | (refine aw_block ?_) | (refine aw_exit ?_) | (refine aw_ret ?_) | (refine arl_cons rfl rfl (by simp +decide only [aop, abuiltin, aeval, aintBin, bin_int, aload_bump, SS, reduceIte, reduceCtorEq, f8, hln, d2, f0, f1]; exact rfl) (by first | rfl | with_reducible assumption) rfl ?_) | (refine arl_none rfl rfl (by simp +decide only [aop, abuiltin, aeval, aintBin, bin_int, aload_bump, SS, reduceIte, reduceCtorEq, f8, hln, d2, f0, f1]; exact rfl) rfl rfl ?_) | (refine arl_off rfl rfl ?_) | (refine aw_condT (by simp +decide only [aop, abuiltin, aeval, aintBin, bin_int, aload_bump, SS, reduceIte, reduceCtorEq, f8, hln, d2, f0, f1]; first | done | exact rfl) ?_) | (refine aw_condF (by simp +decide only [aop, abuiltin, aeval, aintBin, bin_int, aload_bump, SS, reduceIte, reduceCtorEq, f8, hln, d2, f0, f1]; first | done | exact rfl) ?_))
          refine arl_call rfl rfl rfl rfl rfl rfl ((rbest_ok (by repeat (first | assumption | (refine WF.bump ?_ _))) i (min depth 32) (hbx.up (by repeat (first | exact Keeps.refl _ _ | (refine Keeps.bumpR ?_ _)))) (by omega) hi).wf (by repeat (first | assumption | (refine WF.bump ?_ _) | (refine WF.put ?_ (by simp only [n_bump, n_put, n_touch, n_kill] at *; omega) (by simp only [n_bump, n_put, n_touch, n_kill] at *; omega)))) |>.mono ?_)
          rintro r s1 ⟨hw1, hn1, hE1, rfl⟩
          refine ⟨by first | rfl | with_reducible assumption, ?_⟩
          replace hE1 : Ext sx s1 := Keeps.trans (by repeat (first | assumption | exact Keeps.refl _ _ | (refine Keeps.bumpR ?_ _) | (refine Keeps.put ?_ (by assumption) (by simp only [n_bump, n_put, n_touch, n_kill] at *; omega)))) hE1
          have hN1 := hE1.n
          generalize bst b i i (min depth 32) (0, 0) = r at *
          by_cases hz : r.2 = 0
          · have q2 : ((r.2 : Int) == 0) = true := by simp [hz]
            rw [if_pos hz] at hg
            repeat (first | (refine aw_seq ?_) | (refine aw_reg0 (by simp only [SZ, Nat.reduceAdd]; exact rfl) ?_) | (refine aw_reg (by decide +kernel) (by simp only [SZ, Nat.reduceAdd]; exact rfl) ?_) | (refine aw_regS (by decide +kernel) (by simp only [SZ, Nat.reduceAdd]; exact rfl) ?_) | (refine arl_nil ?_) | (refine aw_skip ?_) | (refine aw_block ?_) | (refine aw_exit ?_) | (refine aw_ret ?_) | (refine arl_cons rfl rfl (by simp +decide only [aop, abuiltin, aeval, aintBin, bin_int, aload_bump, SS, reduceIte, reduceCtorEq, q2, f8, hwk]; exact rfl) (by first | rfl | with_reducible assumption) rfl ?_) | (refine arl_none rfl rfl (by simp +decide only [aop, abuiltin, aeval, aintBin, bin_int, aload_bump, SS, reduceIte, reduceCtorEq, q2, f8, hwk]; exact rfl) rfl rfl ?_) | (refine arl_off rfl rfl ?_) | (refine aw_condT (by simp +decide only [aop, abuiltin, aeval, aintBin, bin_int, aload_bump, SS, reduceIte, reduceCtorEq, q2, f8, hwk]; first | done | exact rfl) ?_) | (refine aw_condF (by simp +decide only [aop, abuiltin, aeval, aintBin, bin_int, aload_bump, SS, reduceIte, reduceCtorEq, q2, f8, hwk]; first | done | exact rfl) ?_))
            exact ⟨b.length - (i + 1), by omega, hE.trans ((hE1.trans (by repeat (first | exact Keeps.refl _ _ | (refine Keeps.bumpR ?_ _)))).mono (fun _ h => h.elim)), n, i + 1, from_, acc, by omega, by omega, by omega, rfl, hal, f0, f1, f7, rfl, fn, (hO.up hE1).up (by repeat (first | exact Keeps.refl _ _ | (refine Keeps.bumpR ?_ _))), hg⟩
          · have q2 : ((r.2 : Int) == 0) = false := by simp [hz]
            rw [if_neg hz] at hg
            have hok4 := hok.resolve_left hz
            have hin := lcp_in b 131 (i - r.1) i hi
            have hwn : IntKind.i64.wrap ((i : Int) + (r.2 : Int)) = ((i + r.2 : Nat) : Int) := by rw [wrap64_of (by omega) (by omega)]; omega
            have hpl : (pcs ((b.drop from_).take (i - from_))).length ≤ i - from_ := by have := pcs_len ((b.drop from_).take (i - from_)); rw [List.length_take] at this; omega
            repeat (first | (refine aw_seq ?_) | (refine aw_reg0 (by simp only [SZ, Nat.reduceAdd]; exact rfl) ?_) | (refine aw_reg (by decide +kernel) (by simp only [SZ, Nat.reduceAdd]; exact rfl) ?_) | (refine aw_regS (by decide +kernel) (by simp only [SZ, Nat.reduceAdd]; exact rfl) ?_) | (refine arl_nil ?_) | (refine aw_skip ?_) | (refine aw_block ?_) | (refine aw_exit ?_) | (refine aw_ret ?_) | (refine arl_cons rfl rfl (by simp +decide only [aop, abuiltin, aeval, aintBin, bin_int, aload_bump, SS, reduceIte, reduceCtorEq, q2, f6, f0, f7, f8]; exact rfl) (by first | rfl | with_reducible assumption) rfl ?_) | (refine arl_none rfl rfl (by simp +decide only [aop, abuiltin, aeval, aintBin, bin_int, aload_bump, SS, reduceIte, reduceCtorEq, q2, f6, f0, f7, f8]; exact rfl) rfl rfl ?_) | (refine arl_off rfl rfl ?_) | (refine aw_condT (by simp +decide only [aop, abuiltin, aeval, aintBin, bin_int, aload_bump, SS, reduceIte, reduceCtorEq, q2, f6, f0, f7, f8]; first | done | exact rfl) ?_) | (refine aw_condF (by simp +decide only [aop, abuiltin, aeval, aintBin, bin_int, aload_bump, SS, reduceIte, reduceCtorEq, q2, f6, f0, f7, f8]; first | done | exact rfl) ?_))
            refine arl_call rfl rfl rfl rfl rfl rfl ((rlits_ok (by repeat (first | assumption | (refine WF.bump ?_ _))) from_ i ((hO'.up hE1).up (by repeat (first | exact Keeps.refl _ _ | (refine Keeps.bumpR ?_ _)))) fn' (by first | omega | (simp only [n_bump, n_put]; omega) | (simp only [n_bump, n_put] at *; omega)) ((hbx.up hE1).up (by repeat (first | exact Keeps.refl _ _ | (refine Keeps.bumpR ?_ _)))) (fun g hg => by have := hg.2; omega) (by omega) hfi hi (by omega)).wf (by repeat (first | assumption | (refine WF.bump ?_ _) | (refine WF.put ?_ (by simp only [n_bump, n_put, n_touch, n_kill] at *; omega) (by simp only [n_bump, n_put, n_touch, n_kill] at *; omega)))) |>.mono ?_)
            rintro y s2 ⟨hw2, hn2, hE2, hys, hyn, hR⟩
            refine ⟨hys, ?_⟩
            replace hE2 : Keeps (fun g => g = g0) s1 s2 := Keeps.trans (Keeps.mono (G := fun _ => False) (show Ext s1 _ from (by repeat (first | exact Keeps.refl _ _ | (refine Keeps.bumpR ?_ _)))) (fun _ h => h.elim)) hE2
            have hEn2 := hE2.n
            repeat (first | (refine aw_seq ?_) | (refine aw_reg0 (by simp only [SZ, Nat.reduceAdd]; exact rfl) ?_) | (refine aw_reg (by decide +kernel) (by simp only [SZ, Nat.reduceAdd]; exact rfl) ?_) | (refine aw_regS (by decide +kernel) (by simp only [SZ, Nat.reduceAdd]; exact rfl) ?_) | (refine arl_nil ?_) | (refine aw_skip ?_) | (refine aw_block ?_) | (refine aw_exit ?_) | (refine aw_ret ?_) | (refine arl_cons rfl rfl (by simp +decide only [aop, abuiltin, aeval, aintBin, bin_int, aload_bump, SS, reduceIte, reduceCtorEq, bldTc, litT1]; exact rfl) (by first | rfl | with_reducible assumption) rfl ?_) | (refine arl_none rfl rfl (by simp +decide only [aop, abuiltin, aeval, aintBin, bin_int, aload_bump, SS, reduceIte, reduceCtorEq, bldTc, litT1]; exact rfl) rfl rfl ?_) | (refine arl_off rfl rfl ?_) | (refine aw_condT (by simp +decide only [aop, abuiltin, aeval, aintBin, bin_int, aload_bump, SS, reduceIte, reduceCtorEq, bldTc, litT1]; first | done | exact rfl) ?_) | (refine aw_condF (by simp +decide only [aop, abuiltin, aeval, aintBin, bin_int, aload_bump, SS, reduceIte, reduceCtorEq, bldTc, litT1]; first | done | exact rfl) ?_))
            refine arl_appX (k := tokK) (K0 := fun g => g = g0) (L0 := fun _ g => g0 < g) (Kx := fun _ => True) (Kn := fun _ => False) (K := fun g => g = g0) (L := fun _ g => g0 < g) (xs := acc ++ pcs ((b.drop from_).take (i - from_))) (ns := [([], (r.1 : Int), (r.2 : Int))]) TTK rfl rfl rfl (hR.up (by repeat (first | assumption | exact Keeps.refl _ _ | (refine Keeps.bumpR ?_ _) | (refine Keeps.put ?_ (by assumption) (by simp only [n_bump, n_put, n_touch, n_kill] at *; omega))))) (RdL.one ⟨_, rfl, RdB.nilV⟩ rfl _ trivial _) (fun g _ h => h) ⟨fun h => h, fun h => absurd h hyn⟩ (fun _ h => h) (fun _ _ _ h => h) (fun _ _ _ _ h => h.elim) ?hfr (by simp; omega) (by simp; omega) ?_
            case hfr =>
              rw [get_put_ne _ (by omega)]
              exact fresh hw2 (by first | omega | (simp only [n_bump, n_put]; omega) | (simp only [n_bump, n_put] at *; omega))
            intro z s3 hO3 hn3 hK3 hwf3
            have hzs := hO3.solid
            have hzn := hO3.ne
            replace hK3 : Keeps (fun g => g = g0) s2 s3 := Keeps.trans (Keeps.mono (G := fun _ => False) (show Ext s2 _ from (by repeat (first | assumption | exact Keeps.refl _ _ | (refine Keeps.bumpR ?_ _) | (refine Keeps.put ?_ (by assumption) (by simp only [n_bump, n_put, n_touch, n_kill] at *; omega))))) (fun _ h => h.elim)) hK3
            repeat (first | (refine aw_seq ?_) | (refine aw_reg0 (by simp only [SZ, Nat.reduceAdd]; exact rfl) ?_) | (refine aw_reg (by decide +kernel) (by simp only [SZ, Nat.reduceAdd]; exact rfl) ?_) | (refine aw_regS (by decide +kernel) (by simp only [SZ, Nat.reduceAdd]; exact rfl) ?_) | (refine arl_nil ?_) | (refine aw_skip ?_) | (refine aw_block ?_) | (refine aw_exit ?_) | (refine aw_ret ?_) | (refine arl_cons rfl rfl (by simp +decide only [aop, abuiltin, aeval, aintBin, bin_int, aload_bump, SS, reduceIte, reduceCtorEq, f8, hwn]; exact rfl) (by first | rfl | with_reducible assumption) rfl ?_) | (refine arl_none rfl rfl (by simp +decide only [aop, abuiltin, aeval, aintBin, bin_int, aload_bump, SS, reduceIte, reduceCtorEq, f8, hwn]; exact rfl) rfl rfl ?_) | (refine arl_off rfl rfl ?_) | (refine aw_condT (by simp +decide only [aop, abuiltin, aeval, aintBin, bin_int, aload_bump, SS, reduceIte, reduceCtorEq, f8, hwn]; first | done | exact rfl) ?_) | (refine aw_condF (by simp +decide only [aop, abuiltin, aeval, aintBin, bin_int, aload_bump, SS, reduceIte, reduceCtorEq, f8, hwn]; first | done | exact rfl) ?_))
            refine ⟨b.length - (i + r.2), by omega, (hE.trans (hE1.mono (fun _ h => h.elim))).trans (hE2.trans (hK3.trans (Keeps.mono (G := fun _ => False) (by repeat (first | exact Keeps.refl _ _ | (refine Keeps.bumpR ?_ _))) (fun _ h => h.elim)))), n, i + r.2, i + r.2, _, by omega, by omega, by omega, rfl, ?_, f0, f1, rfl, rfl, hzn, hO3.up (by repeat (first | exact Keeps.refl _ _ | (refine Keeps.bumpR ?_ _))), hg⟩
            rw [List.length_append, List.length_append, List.length_singleton]
            omega
        · have d2 : decide ((i : Int) < (b.length : Int)) = false := decide_eq_false (by omega)
          have hg2 : grd b (min depth 32) n from_ i acc = acc ++ pcs ((b.drop from_).take (i - from_)) := by
            cases n with
            | zero => rfl
            | succ n => rw [grd, if_neg hlt]
          repeat (first | (refine aw_seq ?_) | (refine aw_reg0 (by simp only [SZ, Nat.reduceAdd]; exact rfl) ?_) | (refine aw_reg (by decide +kernel) (by simp only [SZ, Nat.reduceAdd]; exact rfl) ?_) | (refine aw_regS (by decide +kernel) (by simp only [SZ, Nat.reduceAdd]; exact rfl) ?_) | (refine arl_nil ?_) | (refine aw_skip ?_) | (refine aw_block ?_) | (refine aw_exit ?_) | (refine aw_ret ?_) | (refine arl_cons rfl rfl (by simp +decide only [aop, abuiltin, aeval, aintBin, bin_int, aload_bump, SS, reduceIte, reduceCtorEq, f8, hln, d2, f6, f0, f7]; exact rfl) (by first | rfl | with_reducible assumption) rfl ?_) | (refine arl_none rfl rfl (by simp +decide only [aop, abuiltin, aeval, aintBin, bin_int, aload_bump, SS, reduceIte, reduceCtorEq, f8, hln, d2, f6, f0, f7]; exact rfl) rfl rfl ?_) | (refine arl_off rfl rfl ?_) | (refine aw_condT (by simp +decide only [aop, abuiltin, aeval, aintBin, bin_int, aload_bump, SS, reduceIte, reduceCtorEq, f8, hln, d2, f6, f0, f7]; first | done | exact rfl) ?_) | (refine aw_condF (by simp +decide only [aop, abuiltin, aeval, aintBin, bin_int, aload_bump, SS, reduceIte, reduceCtorEq, f8, hln, d2, f6, f0, f7]; first | done | exact rfl) ?_))
          refine arl_call rfl rfl rfl rfl rfl rfl ((rlits_ok (by repeat (first | assumption | (refine WF.bump ?_ _))) from_ i (hO'.up (by repeat (first | exact Keeps.refl _ _ | (refine Keeps.bumpR ?_ _)))) fn' (by first | omega | (simp only [n_bump, n_put]; omega) | (simp only [n_bump, n_put] at *; omega)) (hbx.up (by repeat (first | exact Keeps.refl _ _ | (refine Keeps.bumpR ?_ _)))) (fun g hg => by have := hg.2; omega) (by omega) hfi hi (by omega)).wf (by repeat (first | assumption | (refine WF.bump ?_ _) | (refine WF.put ?_ (by simp only [n_bump, n_put, n_touch, n_kill] at *; omega) (by simp only [n_bump, n_put, n_touch, n_kill] at *; omega)))) |>.mono ?_)
          rintro r s1 ⟨hw1, hn1, hE1, hrs, hrn, hR⟩
          refine ⟨hrs, ?_⟩
          replace hE1 : Keeps (fun g => g = g0) sx s1 := Keeps.trans (Keeps.mono (G := fun _ => False) (show Ext sx _ from (by repeat (first | exact Keeps.refl _ _ | (refine Keeps.bumpR ?_ _)))) (fun _ h => h.elim)) hE1
          repeat (first | (refine aw_seq ?_) | (refine aw_reg0 (by simp only [SZ, Nat.reduceAdd]; exact rfl) ?_) | (refine aw_reg (by decide +kernel) (by simp only [SZ, Nat.reduceAdd]; exact rfl) ?_) | (refine aw_regS (by decide +kernel) (by simp only [SZ, Nat.reduceAdd]; exact rfl) ?_) | (refine arl_nil ?_) | (refine aw_skip ?_) | (refine aw_block ?_) | (refine aw_exit ?_) | (refine aw_ret ?_) | (refine arl_cons rfl rfl (by simp +decide only [aop, abuiltin, aeval, aintBin, bin_int, aload_bump, SS, reduceIte, reduceCtorEq]; exact rfl) (by first | rfl | with_reducible assumption) rfl ?_) | (refine arl_none rfl rfl (by simp +decide only [aop, abuiltin, aeval, aintBin, bin_int, aload_bump, SS, reduceIte, reduceCtorEq]; exact rfl) rfl rfl ?_) | (refine arl_off rfl rfl ?_) | (refine aw_condT (by simp +decide only [aop, abuiltin, aeval, aintBin, bin_int, aload_bump, SS, reduceIte, reduceCtorEq]; first | done | exact rfl) ?_) | (refine aw_condF (by simp +decide only [aop, abuiltin, aeval, aintBin, bin_int, aload_bump, SS, reduceIte, reduceCtorEq]; first | done | exact rfl) ?_))
          refine ⟨.inr rfl, _, rfl, (Keeps.call hSx hE1 hw (fun g h => .inr (by omega))).trans (by repeat (first | exact Keeps.refl _ _ | (refine Keeps.bumpR ?_ _))), _, rfl, hrs, ?_⟩
          rw [hg, hg2]
          exact (hR.rd.mono (fun g h => h.elim (fun h => by omega) (fun ⟨_, h⟩ => by omega))).up (by repeat (first | exact Keeps.refl _ _ | (refine Keeps.bumpR ?_ _)))
      · refine ⟨Keeps.mono (G := fun _ => False) (by repeat (first | exact Keeps.refl _ _ | (refine Keeps.bumpR ?_ _))) (fun _ h => h.elim), b.length, 0, 0, [], by omega, by omega, by omega, rfl, by simp, rfl, by rw [hD]; rfl, rfl, rfl, ?_, ?_, rfl⟩
        · intro h; cases h
        · rw [hgs, hkk] at hO0 ⊢; exact hO0.up (by repeat (first | exact Keeps.refl _ _ | (refine Keeps.bumpR ?_ _)))
end Go.Proofs.Ytoohookgimkhbaa.Ra
