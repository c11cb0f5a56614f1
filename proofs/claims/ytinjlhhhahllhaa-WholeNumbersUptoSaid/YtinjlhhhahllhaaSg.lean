/- cursor.Writer writes numbers. -/
import Derived.Test.YtinjlhhhahllhaaSf
namespace Go.Proofs.Ytinjlhhhahllhaa.Ra
open Go Go.RowKit
set_option linter.unusedVariables false
set_option linter.unusedSimpArgs false
set_option maxRecDepth 10000
theorem Keeps.write1 {s : St} {i : Nat} {o o2 : AObj} (h : s.get i = some o) (off n : Nat) : Keeps (fun g => g = o.grp) s ((s.touch o.grp off n).put i o2) := ⟨Nat.le_refl _, fun j o' ho hg => by
  have hne : j ≠ i := fun e => by
    subst e
    rw [h] at ho
    cases ho
    exact hg rfl
  simp [St.put, hne, St.touch, ho, hg]⟩
/-- The n lowest bytes, the highest first. -/
def bes (x : Int) (n : Nat) : List Int := (List.range n).map fun i => (x / 2 ^ (8 * (n - 1 - i))) % 256
theorem bes_len (x : Int) (n : Nat) : (bes x n).length = n := by simp [bes]
theorem bes_get (x : Int) (n k : Nat) (h : k < n) : (bes x n)[k]'(by rw [bes_len]; exact h) = (x / 2 ^ (8 * (n - 1 - k))) % 256 := by simp [bes]
theorem wnumber_ok {st : St} (hw : WF st) {K : Nat → Prop} {p : AV} {ys : List Int} {m : Int} (h : BxO st K WR p ys m) (x : Int) (n : Nat) (hn : 1 ≤ n ∧ n ≤ 8) (hm : 0 ≤ m ∧ m ≤ 1048576) (hl : (ys.length : Int) ≤ m) :
    ACalls Try.prog 18 [p, .pl (.int .u64 x), i64 n] st (fun r s => Keeps K st s ∧ r = i64 (if (n : Int) ≤ m - ys.length then 0 else 10) ∧ BxO s (fun g => K g ∨ st.n ≤ g) WR p (if (n : Int) ≤ m - ys.length then ys ++ bes x n else ys) m) := by
  have hps := h.solid
  refine acalls_of Try.func18 rfl (by kernel_rfl) (by simp [hps]; exact ⟨rfl, rfl⟩) ?_
  repeat (first | (refine aw_seq ?_) | (refine aw_reg0 (by simp only [SZ, Nat.reduceAdd]; exact rfl) ?_) | (refine aw_reg (by decide +kernel) (by simp only [SZ, Nat.reduceAdd]; exact rfl) ?_) | (refine aw_regS (by decide +kernel) (by simp only [SZ, Nat.reduceAdd]; exact rfl) ?_) | (refine arl_nil ?_) | (refine aw_skip ?_) | (refine aw_block ?_) | (refine aw_exit ?_) | (refine aw_ret ?_) | (refine arl_cons rfl rfl (by simp +decide only [aop, abuiltin, aeval, aintBin, bin_int, aload_bump, SS, reduceIte, reduceCtorEq]; exact rfl) (by first | rfl | with_reducible assumption) rfl ?_) | (refine arl_none rfl rfl (by simp +decide only [aop, abuiltin, aeval, aintBin, bin_int, aload_bump, SS, reduceIte, reduceCtorEq]; exact rfl) rfl rfl ?_) | (refine arl_off rfl rfl ?_))
  refine arl_call rfl rfl rfl rfl rfl rfl ((wroom_ok (h.keep (G := fun _ => False) (by repeat (first | assumption | exact Keeps.refl _ _ | (refine Keeps.bumpR ?_ _) | (refine Keeps.put ?_ (by assumption) (by simp only [n_bump, n_put, n_touch, n_kill] at *; omega)))) (fun _ _ h => h)) (by omega) (by omega)).wf (by repeat (first | assumption | (refine WF.bump ?_ _) | (refine WF.put ?_ (by simp only [n_bump, n_put, n_touch, n_kill] at *; omega) (by simp only [n_bump, n_put, n_touch, n_kill] at *; omega)))) |>.mono ?_)
  rintro r s1 ⟨hw1, hn1, hE1, rfl⟩
  refine ⟨rfl, ?_⟩
  replace hE1 : Ext st s1 := Keeps.trans (by repeat (first | assumption | exact Keeps.refl _ _ | (refine Keeps.bumpR ?_ _) | (refine Keeps.put ?_ (by assumption) (by simp only [n_bump, n_put, n_touch, n_kill] at *; omega)))) hE1
  have hE1n := hE1.n
  repeat (first | (refine aw_seq ?_) | (refine aw_reg0 (by simp only [SZ, Nat.reduceAdd]; exact rfl) ?_) | (refine aw_reg (by decide +kernel) (by simp only [SZ, Nat.reduceAdd]; exact rfl) ?_) | (refine aw_regS (by decide +kernel) (by simp only [SZ, Nat.reduceAdd]; exact rfl) ?_) | (refine arl_nil ?_) | (refine aw_skip ?_) | (refine aw_block ?_) | (refine aw_exit ?_) | (refine aw_ret ?_) | (refine arl_cons rfl rfl (by simp +decide only [aop, abuiltin, aeval, aintBin, bin_int, aload_bump, SS, reduceIte, reduceCtorEq]; exact rfl) (by first | rfl | with_reducible assumption) rfl ?_) | (refine arl_none rfl rfl (by simp +decide only [aop, abuiltin, aeval, aintBin, bin_int, aload_bump, SS, reduceIte, reduceCtorEq]; exact rfl) rfl rfl ?_) | (refine arl_off rfl rfl ?_))
  (change AW _ _ _ _ _)
  refine aw_cond (by simp +decide only [aop, abuiltin, aeval, aintBin, bin_int, aload_bump, SS, reduceIte, reduceCtorEq]; exact rfl) (fun hc => ?_) (fun hc => ?_)
  · simp only [decide_eq_true_eq] at hc
    repeat (first | (refine aw_seq ?_) | (refine aw_reg0 (by simp only [SZ, Nat.reduceAdd]; exact rfl) ?_) | (refine aw_reg (by decide +kernel) (by simp only [SZ, Nat.reduceAdd]; exact rfl) ?_) | (refine aw_regS (by decide +kernel) (by simp only [SZ, Nat.reduceAdd]; exact rfl) ?_) | (refine arl_nil ?_) | (refine aw_skip ?_) | (refine aw_block ?_) | (refine aw_exit ?_) | (refine aw_ret ?_) | (refine arl_cons rfl rfl (by simp +decide only [aop, abuiltin, aeval, aintBin, bin_int, aload_bump, SS, reduceIte, reduceCtorEq]; exact rfl) (by first | rfl | with_reducible assumption) rfl ?_) | (refine arl_none rfl rfl (by simp +decide only [aop, abuiltin, aeval, aintBin, bin_int, aload_bump, SS, reduceIte, reduceCtorEq]; exact rfl) rfl rfl ?_) | (refine arl_off rfl rfl ?_))
    have hno : ¬ (n : Int) ≤ m - ys.length := by omega
    refine ⟨.inr rfl, _, rfl, (hE1.mono (fun _ h => h.elim)).bumpR _, ?_, ?_⟩
    · rw [if_neg hno]; rfl
    · rw [if_neg hno]
      exact (h.keep (hE1.bumpR _) (fun _ _ h => h)).mono (fun g h => .inl h)
  · simp only [decide_eq_false_iff_not] at hc
    have hyes : (n : Int) ≤ m - ys.length := by omega
    have hwn : IntKind.i64.wrap ((n : Int) - 1) = (n : Int) - 1 := wrap64_of (by omega) (by omega)
    repeat (first | (refine aw_seq ?_) | (refine aw_reg0 (by simp only [SZ, Nat.reduceAdd]; exact rfl) ?_) | (refine aw_reg (by decide +kernel) (by simp only [SZ, Nat.reduceAdd]; exact rfl) ?_) | (refine aw_regS (by decide +kernel) (by simp only [SZ, Nat.reduceAdd]; exact rfl) ?_) | (refine arl_nil ?_) | (refine aw_skip ?_) | (refine aw_block ?_) | (refine aw_exit ?_) | (refine aw_ret ?_) | (refine arl_cons rfl rfl (by simp +decide only [aop, abuiltin, aeval, aintBin, bin_int, aload_bump, SS, reduceIte, reduceCtorEq, hwn]; exact rfl) (by first | rfl | with_reducible assumption) rfl ?_) | (refine arl_none rfl rfl (by simp +decide only [aop, abuiltin, aeval, aintBin, bin_int, aload_bump, SS, reduceIte, reduceCtorEq, hwn]; exact rfl) rfl rfl ?_) | (refine arl_off rfl rfl ?_))
    refine aw_rounds_wf (fun d fr s => Keeps K st s ∧ ∃ (k : Nat), k ≤ n ∧ d = n - k ∧ fr 0 = p ∧ fr 1 = .pl (.int .u64 x) ∧ fr 7 = i64 ((n : Int) - 1 - k) ∧ BxO s (fun g => K g ∨ st.n ≤ g) WR p (ys ++ (bes x n).take k) m) ?_ n _ _ (by repeat (first | assumption | (refine WF.bump ?_ _) | (refine WF.put ?_ (by simp only [n_bump, n_put, n_touch, n_kill] at *; omega) (by simp only [n_bump, n_put, n_touch, n_kill] at *; omega)))) ?_
    · rintro d fr s hws ⟨hE, k, hk, rfl, f0, f1, f7, hB⟩
      have hEn := hE.n
      repeat (first | (refine aw_seq ?_) | (refine aw_reg0 (by simp only [SZ, Nat.reduceAdd]; exact rfl) ?_) | (refine aw_reg (by decide +kernel) (by simp only [SZ, Nat.reduceAdd]; exact rfl) ?_) | (refine aw_regS (by decide +kernel) (by simp only [SZ, Nat.reduceAdd]; exact rfl) ?_) | (refine arl_nil ?_) | (refine aw_skip ?_) | (refine aw_block ?_) | (refine aw_exit ?_) | (refine aw_ret ?_) | (refine arl_cons rfl rfl (by simp +decide only [aop, abuiltin, aeval, aintBin, bin_int, aload_bump, SS, reduceIte, reduceCtorEq, f7]; exact rfl) (by first | rfl | with_reducible assumption) rfl ?_) | (refine arl_none rfl rfl (by simp +decide only [aop, abuiltin, aeval, aintBin, bin_int, aload_bump, SS, reduceIte, reduceCtorEq, f7]; exact rfl) rfl rfl ?_) | (refine arl_off rfl rfl ?_))
      (change AW _ _ _ _ _)
      refine aw_cond (by simp +decide only [aop, abuiltin, aeval, aintBin, bin_int, aload_bump, SS, reduceIte, reduceCtorEq]; exact rfl) (fun hc2 => ?_) (fun hc2 => ?_)
      · simp only [decide_eq_true_eq] at hc2
        have hk2 : k < n := by omega
        obtain ⟨i, g, c, rfl, hg, hKg, hO, hcs, hb0, hb1⟩ := hB.un
        have hgn : g < s.n := (hws i _ hg).2
        have hw8 : IntKind.i64.wrap (8 * ((n : Int) - 1 - k)) = ((8 * (n - 1 - k) : Nat) : Int) := by rw [wrap64_of (by omega) (by omega)]; omega
        have hmn : min ((8 * (n - 1 - k) : Nat) : Int).toNat IntKind.u64.bits = 8 * (n - 1 - k) := by
          have : IntKind.u64.bits = 64 := rfl
          rw [this]
          omega
        have hfd : x.fdiv (2 ^ (8 * (n - 1 - k))) = x / 2 ^ (8 * (n - 1 - k)) := Int.fdiv_eq_ediv_of_nonneg _ (Int.le_of_lt (Int.pow_pos (by decide)))
        have hwu : IntKind.u8.wrap (x / 2 ^ (8 * (n - 1 - k))) = (x / 2 ^ (8 * (n - 1 - k))) % 256 := IntKind.wrap_u8 _
        repeat (first | (refine aw_seq ?_) | (refine aw_reg0 (by simp only [SZ, Nat.reduceAdd]; exact rfl) ?_) | (refine aw_reg (by decide +kernel) (by simp only [SZ, Nat.reduceAdd]; exact rfl) ?_) | (refine aw_regS (by decide +kernel) (by simp only [SZ, Nat.reduceAdd]; exact rfl) ?_) | (refine arl_nil ?_) | (refine aw_skip ?_) | (refine aw_block ?_) | (refine aw_exit ?_) | (refine aw_ret ?_) | (refine arl_cons rfl rfl (by simp +decide only [aop, abuiltin, aeval, aintBin, bin_int, aload_bump, SS, reduceIte, reduceCtorEq, f0, f1, f7, faW0, hb0, hw8, abin, hmn, hfd, conv_int Try.underlying49 Try.underlying5, hwu, lit1]; exact rfl) (by first | rfl | with_reducible assumption) rfl ?_) | (refine arl_none rfl rfl (by simp +decide only [aop, abuiltin, aeval, aintBin, bin_int, aload_bump, SS, reduceIte, reduceCtorEq, f0, f1, f7, faW0, hb0, hw8, abin, hmn, hfd, conv_int Try.underlying49 Try.underlying5, hwu, lit1]; exact rfl) rfl rfl ?_) | (refine arl_off rfl rfl ?_))
        refine arl_app (K := fun h => (K h ∨ st.n ≤ h) ∧ h ≠ g) (K' := fun _ => True) (xs := ys ++ (bes x n).take k) (ns := [(x / 2 ^ (8 * (n - 1 - k))) % 256]) rfl rfl rfl (hO.keep (G := fun _ => False) ((((Keeps.refl _ s).bumpR _).bumpR _).put hws (by simp only [n_bump, n_put, n_touch, n_kill] at *; omega)) (fun _ _ h => h)) (RdB.lit _ _ _ [_]) ⟨.inr (by simp only [n_bump, n_put, n_touch, n_kill] at *; omega), by simp only [n_bump]; omega⟩ (by simp [bes_len]; omega) ?_
        intro y s2 hO2 hn2 hK2
        have hys := hO2.solid
        have hyc := hO2.rd.cell
        have hE2 : Keeps K st s2 := hK2 K st hw (((hE.bumpR _).bumpR _).put hw (by simp only [n_bump, n_put, n_touch, n_kill] at *; omega)) (by simp only [n_bump, n_put, n_touch, n_kill] at *; omega) (fun g hg => hg.1)
        have hg2 : s2.get i = some ⟨[c, i64 m], WR, true, g⟩ := (hK2 (fun h => (K h ∨ st.n ≤ h) ∧ h ≠ g) s hws ((((Keeps.refl _ s).bumpR _).bumpR _).put hws (by simp only [n_bump, n_put, n_touch, n_kill] at *; omega)) (by simp only [n_bump, n_put, n_touch, n_kill] at *; omega) (fun g hg => .inl hg)).get i _ hg (fun h => h.2 rfl)
        repeat (first | (refine aw_seq ?_) | (refine aw_reg0 (by simp only [SZ, Nat.reduceAdd]; exact rfl) ?_) | (refine aw_reg (by decide +kernel) (by simp only [SZ, Nat.reduceAdd]; exact rfl) ?_) | (refine aw_regS (by decide +kernel) (by simp only [SZ, Nat.reduceAdd]; exact rfl) ?_) | (refine arl_nil ?_) | (refine aw_skip ?_) | (refine aw_block ?_) | (refine aw_exit ?_) | (refine aw_ret ?_) | (refine arl_cons rfl rfl (by simp +decide only [aop, abuiltin, aeval, aintBin, bin_int, aload_bump, SS, reduceIte, reduceCtorEq, f0, faW0]; exact rfl) (by first | rfl | with_reducible assumption) rfl ?_) | (refine arl_none rfl rfl (by simp +decide only [aop, abuiltin, aeval, aintBin, bin_int, aload_bump, SS, reduceIte, reduceCtorEq, f0, faW0]; exact rfl) rfl rfl ?_) | (refine arl_off rfl rfl ?_))
        refine arl_storeC (x := y) rfl rfl rfl (by simp only [aeval, aput_at]; rfl) (by simp only [aeval, aput_at]; rfl) hg2 szB hyc.1 hyc.2 hys (by simp) ?_
        have hwk : IntKind.i64.wrap ((n : Int) - 1 - k - 1) = (n : Int) - 1 - ((k + 1 : Nat) : Int) := by rw [wrap64_of (by omega) (by omega)]; omega
        repeat (first | (refine aw_seq ?_) | (refine aw_reg0 (by simp only [SZ, Nat.reduceAdd]; exact rfl) ?_) | (refine aw_reg (by decide +kernel) (by simp only [SZ, Nat.reduceAdd]; exact rfl) ?_) | (refine aw_regS (by decide +kernel) (by simp only [SZ, Nat.reduceAdd]; exact rfl) ?_) | (refine arl_nil ?_) | (refine aw_skip ?_) | (refine aw_block ?_) | (refine aw_exit ?_) | (refine aw_ret ?_) | (refine arl_cons rfl rfl (by simp +decide only [aop, abuiltin, aeval, aintBin, bin_int, aload_bump, SS, reduceIte, reduceCtorEq, f7]; exact rfl) (by first | rfl | with_reducible assumption) rfl ?_) | (refine arl_none rfl rfl (by simp +decide only [aop, abuiltin, aeval, aintBin, bin_int, aload_bump, SS, reduceIte, reduceCtorEq, f7]; exact rfl) rfl rfl ?_) | (refine arl_off rfl rfl ?_))
        refine ⟨n - (k + 1), by omega, (Keeps.write hE2 hw hg2 hKg 0 1).bumpR _, k + 1, by omega, rfl, f0, f1, ?_, ?_⟩
        · show AV.pl _ = _
          rw [hwk]
        · rw [List.take_succ_eq_append_getElem (by rw [bes_len]; exact hk2), bes_get _ _ _ hk2, ← List.append_assoc]
          exact ⟨i, g, y, rfl, get_put _ _, hKg, (hO2.keep (Keeps.write1 hg2 0 1) (fun g' h h' => h.2 h')).bump _⟩
      · simp only [decide_eq_false_iff_not] at hc2
        obtain rfl : k = n := by omega
        repeat (first | (refine aw_seq ?_) | (refine aw_reg0 (by simp only [SZ, Nat.reduceAdd]; exact rfl) ?_) | (refine aw_reg (by decide +kernel) (by simp only [SZ, Nat.reduceAdd]; exact rfl) ?_) | (refine aw_regS (by decide +kernel) (by simp only [SZ, Nat.reduceAdd]; exact rfl) ?_) | (refine arl_nil ?_) | (refine aw_skip ?_) | (refine aw_block ?_) | (refine aw_exit ?_) | (refine aw_ret ?_) | (refine arl_cons rfl rfl (by simp +decide only [aop, abuiltin, aeval, aintBin, bin_int, aload_bump, SS, reduceIte, reduceCtorEq]; exact rfl) (by first | rfl | with_reducible assumption) rfl ?_) | (refine arl_none rfl rfl (by simp +decide only [aop, abuiltin, aeval, aintBin, bin_int, aload_bump, SS, reduceIte, reduceCtorEq]; exact rfl) rfl rfl ?_) | (refine arl_off rfl rfl ?_))
        rw [List.take_of_length_le (by rw [bes_len]; exact Nat.le_refl _)] at hB
        refine ⟨.inr rfl, _, rfl, hE.bumpR _ |>.bumpR _, ?_, ?_⟩
        · rw [if_pos hyes]; rfl
        · rw [if_pos hyes]
          exact hB.keep (((Keeps.refl (fun _ => False) _).bumpR _).bumpR _) (fun _ _ h => h)
    · refine ⟨(hE1.mono (fun _ h => h.elim)).bumpR _, 0, by omega, rfl, rfl, rfl, ?_, ?_⟩
      · show AV.pl _ = _
        simp
      · rw [List.take_zero, List.append_nil]
        exact (h.keep (hE1.bumpR _) (fun _ _ h => h)).mono (fun g h => .inl h)
theorem wI16_ok {st : St} (hw : WF st) {K : Nat → Prop} {p : AV} {ys : List Int} {m : Int} (h : BxO st K WR p ys m) (x : Int) (hm : 0 ≤ m ∧ m ≤ 1048576) (hl : (ys.length : Int) ≤ m) :
    ACalls Try.prog 5 [p, .pl (.int .i16 x)] st (fun r s => Keeps K st s ∧ r = i64 (if (2 : Int) ≤ m - ys.length then 0 else 10) ∧ BxO s (fun g => K g ∨ st.n ≤ g) WR p (if (2 : Int) ≤ m - ys.length then ys ++ bes (IntKind.u64.wrap x) 2 else ys) m) := by
  have hps := h.solid
  refine acalls_of Try.func5 rfl (by kernel_rfl) (by simp [hps]; exact rfl) ?_
  repeat (first | (refine aw_seq ?_) | (refine aw_reg0 (by simp only [SZ, Nat.reduceAdd]; exact rfl) ?_) | (refine aw_reg (by decide +kernel) (by simp only [SZ, Nat.reduceAdd]; exact rfl) ?_) | (refine aw_regS (by decide +kernel) (by simp only [SZ, Nat.reduceAdd]; exact rfl) ?_) | (refine arl_nil ?_) | (refine aw_skip ?_) | (refine aw_block ?_) | (refine aw_exit ?_) | (refine aw_ret ?_) | (refine arl_cons rfl rfl (by simp +decide only [aop, abuiltin, aeval, aintBin, bin_int, aload_bump, SS, reduceIte, reduceCtorEq, conv_int Try.underlying28 Try.underlying49]; exact rfl) (by first | rfl | with_reducible assumption) rfl ?_) | (refine arl_none rfl rfl (by simp +decide only [aop, abuiltin, aeval, aintBin, bin_int, aload_bump, SS, reduceIte, reduceCtorEq, conv_int Try.underlying28 Try.underlying49]; exact rfl) rfl rfl ?_) | (refine arl_off rfl rfl ?_))
  refine arl_call rfl rfl rfl rfl rfl rfl ((wnumber_ok (by repeat (first | assumption | (refine WF.bump ?_ _) | (refine WF.put ?_ (by simp only [n_bump, n_put, n_touch, n_kill] at *; omega) (by simp only [n_bump, n_put, n_touch, n_kill] at *; omega)))) (h.keep (G := fun _ => False) (by repeat (first | assumption | exact Keeps.refl _ _ | (refine Keeps.bumpR ?_ _) | (refine Keeps.put ?_ (by assumption) (by simp only [n_bump, n_put, n_touch, n_kill] at *; omega)))) (fun _ _ h => h)) (IntKind.u64.wrap x) 2 (by omega) hm hl).wf (by repeat (first | assumption | (refine WF.bump ?_ _) | (refine WF.put ?_ (by simp only [n_bump, n_put, n_touch, n_kill] at *; omega) (by simp only [n_bump, n_put, n_touch, n_kill] at *; omega)))) |>.mono ?_)
  rintro r s1 ⟨hw1, hn1, hE1, rfl, hB⟩
  refine ⟨rfl, ?_⟩
  replace hE1 : Keeps K st s1 := Keeps.trans (Keeps.mono (G := fun _ => False) (by repeat (first | assumption | exact Keeps.refl _ _ | (refine Keeps.bumpR ?_ _) | (refine Keeps.put ?_ (by assumption) (by simp only [n_bump, n_put, n_touch, n_kill] at *; omega)))) (fun _ h => h.elim)) hE1
  repeat (first | (refine aw_seq ?_) | (refine aw_reg0 (by simp only [SZ, Nat.reduceAdd]; exact rfl) ?_) | (refine aw_reg (by decide +kernel) (by simp only [SZ, Nat.reduceAdd]; exact rfl) ?_) | (refine aw_regS (by decide +kernel) (by simp only [SZ, Nat.reduceAdd]; exact rfl) ?_) | (refine arl_nil ?_) | (refine aw_skip ?_) | (refine aw_block ?_) | (refine aw_exit ?_) | (refine aw_ret ?_) | (refine arl_cons rfl rfl (by simp +decide only [aop, abuiltin, aeval, aintBin, bin_int, aload_bump, SS, reduceIte, reduceCtorEq]; exact rfl) (by first | rfl | with_reducible assumption) rfl ?_) | (refine arl_none rfl rfl (by simp +decide only [aop, abuiltin, aeval, aintBin, bin_int, aload_bump, SS, reduceIte, reduceCtorEq]; exact rfl) rfl rfl ?_) | (refine arl_off rfl rfl ?_))
  exact ⟨.inr rfl, _, rfl, hE1, rfl, hB.mono (fun g h => h.elim .inl (fun h => .inr (by simp only [n_bump] at h; omega)))⟩
end Go.Proofs.Ytinjlhhhahllhaa.Ra
