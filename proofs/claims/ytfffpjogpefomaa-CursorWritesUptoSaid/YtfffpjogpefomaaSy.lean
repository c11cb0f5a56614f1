/- cursor.Writer.Set32. -/
import Derived.Test.YtfffpjogpefomaaSx
namespace Go.Proofs.Ytfffpjogpefomaa.Ra
open Go Go.RowKit
set_option linter.unusedVariables false
set_option linter.unusedSimpArgs false
set_option maxRecDepth 10000
theorem set_mid (ys b : List Int) (a k : Nat) (ha : a + b.length ≤ ys.length) (hk : k < b.length) : (ys.take a ++ b.take k ++ ys.drop (a + k)).set (a + k) b[k] = ys.take a ++ b.take (k + 1) ++ ys.drop (a + (k + 1)) := by
  have hl : (ys.take a ++ b.take k).length = a + k := by simp; omega
  rw [List.drop_eq_getElem_cons (show a + k < ys.length by omega), List.set_append_right _ _ (by omega), hl, Nat.sub_self, List.set_cons_zero, List.take_succ_eq_append_getElem hk]
  simp only [List.append_assoc, List.cons_append, List.nil_append, Nat.add_assoc]
theorem wset_ok {st : St} (hw : WF st) {K : Nat → Prop} {p : AV} {ys : List Int} {m : Int} (h : BxO st K WR p ys m) (n v : Int) (hl : ys.length ≤ 1048576) :
    ACalls Try.prog 38 [p, i64 n, .pl (.int .i32 v)] st (fun r s => Keeps K st s ∧ r = i64 (if 0 ≤ n ∧ n ≤ (ys.length : Int) - 4 then 0 else 3) ∧ BxO s K WR p (if 0 ≤ n ∧ n ≤ (ys.length : Int) - 4 then ys.take n.toNat ++ bes v 4 ++ ys.drop (n.toNat + 4) else ys) m) := by
  have hps := h.solid
  have hun := h.un
  obtain ⟨i, g, c, rfl, hg, hKg, hO, hcs, hb0, hb1⟩ := hun
  have hln := hO.rd.len
  have hws : IntKind.i64.wrap ((ys.length : Int) - 4) = (ys.length : Int) - 4 := wrap64_of (by omega) (by omega)
  refine acalls_of Try.func38 rfl (by kernel_rfl) (by simp [hps]; exact ⟨rfl, rfl⟩) ?_
  by_cases hneg : n < 0
  · have hd : decide (n < 0) = true := decide_eq_true hneg
    repeat (first | (refine aw_seq ?_) | (refine aw_reg0 (by simp only [SZ, Nat.reduceAdd]; exact rfl) ?_) | (refine aw_reg (by decide +kernel) (by simp only [SZ, Nat.reduceAdd]; exact rfl) ?_) | (refine aw_regS (by decide +kernel) (by simp only [SZ, Nat.reduceAdd]; exact rfl) ?_) | (refine arl_nil ?_) | (refine aw_skip ?_) | (refine aw_block ?_) | (refine aw_exit ?_) | (refine aw_ret ?_) | (refine arl_cons rfl rfl (by simp +decide only [aop, abuiltin, aeval, aintBin, bin_int, aload_bump, SS, reduceIte, reduceCtorEq, hd]; exact rfl) (by first | rfl | assumption) rfl ?_) | (refine arl_none rfl rfl (by simp +decide only [aop, abuiltin, aeval, aintBin, bin_int, aload_bump, SS, reduceIte, reduceCtorEq, hd]; exact rfl) rfl rfl ?_) | (refine arl_off rfl rfl ?_) | (refine aw_condT (by simp +decide only [aop, abuiltin, aeval, aintBin, bin_int, aload_bump, SS, reduceIte, reduceCtorEq, hd]; first | done | exact rfl) ?_) | (refine aw_condF (by simp +decide only [aop, abuiltin, aeval, aintBin, bin_int, aload_bump, SS, reduceIte, reduceCtorEq, hd]; first | done | exact rfl) ?_))
    exact ⟨.inr rfl, _, rfl, Keeps.mono (G := fun _ => False) (by repeat (first | exact Keeps.refl _ _ | (refine Keeps.bumpR ?_ _))) (fun _ h => h.elim), (by rw [if_neg (by omega)]; rfl), (by rw [if_neg (by omega)]; exact h.up (by repeat (first | exact Keeps.refl _ _ | (refine Keeps.bumpR ?_ _))))⟩
  · have hd : decide (n < 0) = false := decide_eq_false hneg
    by_cases hgt : n > (ys.length : Int) - 4
    · have hd2 : decide (n > (ys.length : Int) - 4) = true := decide_eq_true hgt
      repeat (first | (refine aw_seq ?_) | (refine aw_reg0 (by simp only [SZ, Nat.reduceAdd]; exact rfl) ?_) | (refine aw_reg (by decide +kernel) (by simp only [SZ, Nat.reduceAdd]; exact rfl) ?_) | (refine aw_regS (by decide +kernel) (by simp only [SZ, Nat.reduceAdd]; exact rfl) ?_) | (refine arl_nil ?_) | (refine aw_skip ?_) | (refine aw_block ?_) | (refine aw_exit ?_) | (refine aw_ret ?_) | (refine arl_cons rfl rfl (by simp +decide only [aop, abuiltin, aeval, aintBin, bin_int, aload_bump, SS, reduceIte, reduceCtorEq, hd, faW0, hb0, hln, hws, hd2]; exact rfl) (by first | rfl | assumption) rfl ?_) | (refine arl_none rfl rfl (by simp +decide only [aop, abuiltin, aeval, aintBin, bin_int, aload_bump, SS, reduceIte, reduceCtorEq, hd, faW0, hb0, hln, hws, hd2]; exact rfl) rfl rfl ?_) | (refine arl_off rfl rfl ?_) | (refine aw_condT (by simp +decide only [aop, abuiltin, aeval, aintBin, bin_int, aload_bump, SS, reduceIte, reduceCtorEq, hd, faW0, hb0, hln, hws, hd2]; first | done | exact rfl) ?_) | (refine aw_condF (by simp +decide only [aop, abuiltin, aeval, aintBin, bin_int, aload_bump, SS, reduceIte, reduceCtorEq, hd, faW0, hb0, hln, hws, hd2]; first | done | exact rfl) ?_))
      exact ⟨.inr rfl, _, rfl, Keeps.mono (G := fun _ => False) (by repeat (first | exact Keeps.refl _ _ | (refine Keeps.bumpR ?_ _))) (fun _ h => h.elim), (by rw [if_neg (by omega)]; rfl), (by rw [if_neg (by omega)]; exact h.up (by repeat (first | exact Keeps.refl _ _ | (refine Keeps.bumpR ?_ _))))⟩
    · have hd2 : decide (n > (ys.length : Int) - 4) = false := decide_eq_false hgt
      obtain ⟨a, rfl⟩ : ∃ a : Nat, n = (a : Int) := ⟨n.toNat, by omega⟩
      repeat (first | (refine aw_seq ?_) | (refine aw_reg0 (by simp only [SZ, Nat.reduceAdd]; exact rfl) ?_) | (refine aw_reg (by decide +kernel) (by simp only [SZ, Nat.reduceAdd]; exact rfl) ?_) | (refine aw_regS (by decide +kernel) (by simp only [SZ, Nat.reduceAdd]; exact rfl) ?_) | (refine arl_nil ?_) | (refine aw_skip ?_) | (refine aw_block ?_) | (refine aw_exit ?_) | (refine aw_ret ?_) | (refine arl_cons rfl rfl (by simp +decide only [aop, abuiltin, aeval, aintBin, bin_int, aload_bump, SS, reduceIte, reduceCtorEq, hd, faW0, hb0, hln, hws, hd2]; exact rfl) (by first | rfl | assumption) rfl ?_) | (refine arl_none rfl rfl (by simp +decide only [aop, abuiltin, aeval, aintBin, bin_int, aload_bump, SS, reduceIte, reduceCtorEq, hd, faW0, hb0, hln, hws, hd2]; exact rfl) rfl rfl ?_) | (refine arl_off rfl rfl ?_) | (refine aw_condT (by simp +decide only [aop, abuiltin, aeval, aintBin, bin_int, aload_bump, SS, reduceIte, reduceCtorEq, hd, faW0, hb0, hln, hws, hd2]; first | done | exact rfl) ?_) | (refine aw_condF (by simp +decide only [aop, abuiltin, aeval, aintBin, bin_int, aload_bump, SS, reduceIte, reduceCtorEq, hd, faW0, hb0, hln, hws, hd2]; first | done | exact rfl) ?_))
      refine aw_rounds_wf (fun d fr s => Keeps K st s ∧ ∃ (k : Nat), k ≤ 4 ∧ d = 4 - k ∧ fr 0 = .ptr i 0 ∧ fr 1 = i64 a ∧ fr 2 = .pl (.int .i32 v) ∧ fr 20 = i64 k ∧ BxO s K WR (.ptr i 0) (ys.take a ++ (bes v 4).take k ++ ys.drop (a + k)) m) ?_ 4 _ _ (by repeat (first | assumption | (refine WF.bump ?_ _) | (refine WF.put ?_ (by simp only [n_bump, n_put, n_touch, n_kill] at *; omega) (by simp only [n_bump, n_put, n_touch, n_kill] at *; omega)))) ?_
      · rintro d fr s hws1 ⟨hE, k, hk, rfl, f0, f1, f2, f20, hB⟩
        have hEn := hE.n
        have hlk : (ys.take a ++ (bes v 4).take k ++ ys.drop (a + k)).length = ys.length := by simp [bes_len]; omega
        by_cases hlt : k < 4
        · have hd3 : decide ((k : Int) < 4) = true := decide_eq_true (by omega)
          obtain ⟨i', g', c', e1, hg', hKg', hO', hcs', hb0', hb1'⟩ := hB.un
          cases e1
          rcases hO' with ⟨e2, _⟩ | ⟨j, gj, rfl, hgj, hKj⟩
          · rw [e2] at hlk
            simp at hlk
            omega
          have hwi : IntKind.i64.wrap ((a : Int) + (k : Int)) = ((a + k : Nat) : Int) := by rw [wrap64_of (by omega) (by omega)]; omega
          have hw8 : IntKind.i64.wrap (8 * (k : Int)) = 8 * (k : Int) := wrap64_of (by omega) (by omega)
          have hw24 : IntKind.i64.wrap (24 - 8 * (k : Int)) = ((8 * (4 - 1 - k) : Nat) : Int) := by rw [wrap64_of (by omega) (by omega)]; omega
          have hmn : min ((8 * (4 - 1 - k) : Nat) : Int).toNat IntKind.i32.bits = 8 * (4 - 1 - k) := by
            have : IntKind.i32.bits = 32 := rfl
            rw [this]
            omega
          have hfd : v.fdiv (2 ^ (8 * (4 - 1 - k))) = v / 2 ^ (8 * (4 - 1 - k)) := Int.fdiv_eq_ediv_of_nonneg _ (Int.le_of_lt (Int.pow_pos (by decide)))
          have hwu : IntKind.u8.wrap (v / 2 ^ (8 * (4 - 1 - k))) = (bes v 4)[k]'(by rw [bes_len]; exact hlt) := by rw [IntKind.wrap_u8, bes_get _ _ _ hlt]
          have hix : aindexAddr Try.prog 24 (.sl j 0 (ys.take a ++ (bes v 4).take k ++ ys.drop (a + k)).length 1) (i64 ((a + k : Nat) : Int)) = some (.ptr j (a + k)) := by
            rw [idx_sl uB sz5 _ _ _ _ _ _ (by omega) (by rw [hlk]; omega)]
            simp only [Int.toNat_natCast, Nat.mul_one, Nat.zero_add]
          repeat (first | (refine aw_seq ?_) | (refine aw_reg0 (by simp only [SZ, Nat.reduceAdd]; exact rfl) ?_) | (refine aw_reg (by decide +kernel) (by simp only [SZ, Nat.reduceAdd]; exact rfl) ?_) | (refine aw_regS (by decide +kernel) (by simp only [SZ, Nat.reduceAdd]; exact rfl) ?_) | (refine arl_nil ?_) | (refine aw_skip ?_) | (refine aw_block ?_) | (refine aw_exit ?_) | (refine aw_ret ?_) | (refine arl_cons rfl rfl (by simp +decide only [aop, abuiltin, aeval, aintBin, bin_int, aload_bump, SS, reduceIte, reduceCtorEq, f20, hd3, f0, f1, f2, faW0, hb0', hwi, hw8, hw24, abin, hmn, hfd, conv_int Try.underlying21 Try.underlying5, hwu, hix]; exact rfl) (by first | rfl | assumption) rfl ?_) | (refine arl_none rfl rfl (by simp +decide only [aop, abuiltin, aeval, aintBin, bin_int, aload_bump, SS, reduceIte, reduceCtorEq, f20, hd3, f0, f1, f2, faW0, hb0', hwi, hw8, hw24, abin, hmn, hfd, conv_int Try.underlying21 Try.underlying5, hwu, hix]; exact rfl) rfl rfl ?_) | (refine arl_off rfl rfl ?_) | (refine aw_condT (by simp +decide only [aop, abuiltin, aeval, aintBin, bin_int, aload_bump, SS, reduceIte, reduceCtorEq, f20, hd3, f0, f1, f2, faW0, hb0', hwi, hw8, hw24, abin, hmn, hfd, conv_int Try.underlying21 Try.underlying5, hwu, hix]; first | done | exact rfl) ?_) | (refine aw_condF (by simp +decide only [aop, abuiltin, aeval, aintBin, bin_int, aload_bump, SS, reduceIte, reduceCtorEq, f20, hd3, f0, f1, f2, faW0, hb0', hwi, hw8, hw24, abin, hmn, hfd, conv_int Try.underlying21 Try.underlying5, hwu, hix]; first | done | exact rfl) ?_))
          refine arl_store (i := j) (g := gj) (k := a + k) (y := (bes v 4)[k]'(by rw [bes_len]; exact hlt)) rfl rfl rfl (by simp only [aeval, aput_at]; rfl) (by simp only [aeval, aput_at]; rfl) hgj (by rw [hlk]; omega) ?_
          have hwk := wrap_succ (k := k) (by omega)
          repeat (first | (refine aw_seq ?_) | (refine aw_reg0 (by simp only [SZ, Nat.reduceAdd]; exact rfl) ?_) | (refine aw_reg (by decide +kernel) (by simp only [SZ, Nat.reduceAdd]; exact rfl) ?_) | (refine aw_regS (by decide +kernel) (by simp only [SZ, Nat.reduceAdd]; exact rfl) ?_) | (refine arl_nil ?_) | (refine aw_skip ?_) | (refine aw_block ?_) | (refine aw_exit ?_) | (refine aw_ret ?_) | (refine arl_cons rfl rfl (by simp +decide only [aop, abuiltin, aeval, aintBin, bin_int, aload_bump, SS, reduceIte, reduceCtorEq, f20, hwk]; exact rfl) (by first | rfl | assumption) rfl ?_) | (refine arl_none rfl rfl (by simp +decide only [aop, abuiltin, aeval, aintBin, bin_int, aload_bump, SS, reduceIte, reduceCtorEq, f20, hwk]; exact rfl) rfl rfl ?_) | (refine arl_off rfl rfl ?_) | (refine aw_condT (by simp +decide only [aop, abuiltin, aeval, aintBin, bin_int, aload_bump, SS, reduceIte, reduceCtorEq, f20, hwk]; first | done | exact rfl) ?_) | (refine aw_condF (by simp +decide only [aop, abuiltin, aeval, aintBin, bin_int, aload_bump, SS, reduceIte, reduceCtorEq, f20, hwk]; first | done | exact rfl) ?_))
          have hne : j ≠ i := fun e => by
            rw [e] at hgj
            rw [hg'] at hgj
            have := congrArg (fun o => o.map (·.grp)) hgj
            simp at this
            exact hKj.2 this.symm
          refine ⟨4 - (k + 1), by omega, (by
            repeat (refine Keeps.bumpR ?_ _)
            apply Keeps.write (o := ⟨(ys.take a ++ (bes v 4).take k ++ ys.drop (a + k)).map u8, 5, true, gj⟩)
            all_goals first | exact hgj | exact .inl hKj.1 | exact hw | exact hE.trans (Keeps.mono (G := fun _ => False) (by repeat (first | exact Keeps.refl _ _ | (refine Keeps.bumpR ?_ _))) (fun _ h => h.elim))), k + 1, by omega, rfl, f0, f1, f2, rfl, ?_⟩
          rw [set_mid _ _ _ _ (by rw [bes_len]; omega) (by rw [bes_len]; exact hlt)]
          refine BxO.up ⟨i, g', .sl j 0 (ys.take a ++ (bes v 4).take k ++ ys.drop (a + k)).length 1, rfl, ?_, hKg', .inr ⟨j, gj, ?_, get_put _ _, hKj⟩⟩ (by repeat (first | exact Keeps.refl _ _ | (refine Keeps.bumpR ?_ _)))
          · rw [get_put_ne _ (Ne.symm hne)]
            have : (s.get i) = some ⟨[.sl j 0 (ys.take a ++ (bes v 4).take k ++ ys.drop (a + k)).length 1, i64 m], WR, true, g'⟩ := hg'
            simp [St.touch, St.bump, this, Ne.symm hKj.2]
          · have : (ys.take a ++ (bes v 4).take (k + 1) ++ ys.drop (a + (k + 1))).length = (ys.take a ++ (bes v 4).take k ++ ys.drop (a + k)).length := by simp [bes_len]; omega
            rw [this]
        · have hd3 : decide ((k : Int) < 4) = false := decide_eq_false (by omega)
          obtain rfl : k = 4 := by omega
          rw [List.take_of_length_le (l := bes v 4) (by rw [bes_len]; exact Nat.le_refl _)] at hB
          repeat (first | (refine aw_seq ?_) | (refine aw_reg0 (by simp only [SZ, Nat.reduceAdd]; exact rfl) ?_) | (refine aw_reg (by decide +kernel) (by simp only [SZ, Nat.reduceAdd]; exact rfl) ?_) | (refine aw_regS (by decide +kernel) (by simp only [SZ, Nat.reduceAdd]; exact rfl) ?_) | (refine arl_nil ?_) | (refine aw_skip ?_) | (refine aw_block ?_) | (refine aw_exit ?_) | (refine aw_ret ?_) | (refine arl_cons rfl rfl (by simp +decide only [aop, abuiltin, aeval, aintBin, bin_int, aload_bump, SS, reduceIte, reduceCtorEq, f20, hd3]; exact rfl) (by first | rfl | assumption) rfl ?_) | (refine arl_none rfl rfl (by simp +decide only [aop, abuiltin, aeval, aintBin, bin_int, aload_bump, SS, reduceIte, reduceCtorEq, f20, hd3]; exact rfl) rfl rfl ?_) | (refine arl_off rfl rfl ?_) | (refine aw_condT (by simp +decide only [aop, abuiltin, aeval, aintBin, bin_int, aload_bump, SS, reduceIte, reduceCtorEq, f20, hd3]; first | done | exact rfl) ?_) | (refine aw_condF (by simp +decide only [aop, abuiltin, aeval, aintBin, bin_int, aload_bump, SS, reduceIte, reduceCtorEq, f20, hd3]; first | done | exact rfl) ?_))
          exact ⟨.inr rfl, _, rfl, hE.trans (Keeps.mono (G := fun _ => False) (by repeat (first | exact Keeps.refl _ _ | (refine Keeps.bumpR ?_ _))) (fun _ h => h.elim)), (by rw [if_pos (by omega)]; rfl), (by rw [if_pos (by omega), Int.toNat_natCast]; exact hB.up (by repeat (first | exact Keeps.refl _ _ | (refine Keeps.bumpR ?_ _))))⟩
      · refine ⟨Keeps.mono (G := fun _ => False) (by repeat (first | exact Keeps.refl _ _ | (refine Keeps.bumpR ?_ _))) (fun _ h => h.elim), 0, by omega, rfl, rfl, rfl, rfl, rfl, ?_⟩
        rw [List.take_zero, List.append_nil, Nat.add_zero, List.take_append_drop]
        exact h.up (by repeat (first | exact Keeps.refl _ _ | (refine Keeps.bumpR ?_ _)))
end Go.Proofs.Ytfffpjogpefomaa.Ra
