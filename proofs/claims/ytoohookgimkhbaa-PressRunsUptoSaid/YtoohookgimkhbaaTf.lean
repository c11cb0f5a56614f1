/- leatref05: carry, Run. -/
import Derived.Test.YtoohookgimkhbaaTe
namespace Go.Proofs.Ytoohookgimkhbaa.Ra
open Go Go.RowKit
set_option linter.unusedVariables false
set_option linter.unusedSimpArgs false
set_option maxRecDepth 10000
theorem getD_left {l r : List Int} {j : Nat} (h : j < l.length) : (l ++ r).getD j 0 = l.getD j 0 := by
  rw [List.getD_eq_getElem?_getD, List.getD_eq_getElem?_getD, List.getElem?_append_left h]
theorem getD_at {l : List Int} {x : Int} : (l ++ [x]).getD l.length 0 = x := by
  rw [List.getD_eq_getElem?_getD, List.getElem?_append_right (Nat.le_refl _)]
  simp
theorem cp_pre (d : Nat) (out : List Int) (k j : Nat) (h : j < out.length) : (cp d out k).getD j 0 = out.getD j 0 := by
  induction k with
  | zero => rfl
  | succ k ih => rw [cp, getD_left (by rw [cp_len]; omega), ih]
theorem cp_at {d : Nat} {out : List Int} (h1 : 1 ≤ d) (h2 : d ≤ out.length) : ∀ k j, j < k → (cp d out k).getD (out.length + j) 0 = out.getD (out.length - d + j % d) 0 := by
  intro k
  induction k with
  | zero => intro j hj; omega
  | succ k ih =>
    intro j hj
    rw [cp]
    by_cases hjk : j < k
    · rw [getD_left (by rw [cp_len]; omega), ih j hjk]
    · obtain rfl : j = k := by omega
      have e := getD_at (l := cp d out j) (x := (cp d out j).getD ((cp d out j).length - d) 0)
      rw [cp_len] at e
      rw [cp_len, e]
      by_cases hjd : j < d
      · rw [Nat.mod_eq_of_lt hjd, cp_pre _ _ _ _ (by omega)]
        congr 1
        omega
      · have := ih (j - d) (by omega)
        rw [show out.length + j - d = out.length + (j - d) by omega, this, ← Nat.mod_eq_sub_mod (by omega)]
theorem cp_ref {d : Nat} {out : List Int} (h1 : 1 ≤ d) (h2 : d ≤ out.length) (k : Nat) : (cp d out k).getD ((cp d out k).length - d) 0 = (cp d out k).getD (out.length - d + k % d) 0 := by
  have hm := Nat.mod_lt k (show 0 < d by omega)
  rw [cp_len, cp_pre d out k (out.length - d + k % d) (by omega)]
  by_cases hk : k < d
  · rw [Nat.mod_eq_of_lt hk, cp_pre _ _ _ _ (by omega)]
    congr 1
    omega
  · have := cp_at h1 h2 k (k - d) (by omega)
    rw [show out.length + k - d = out.length + (k - d) by omega, this, ← Nat.mod_eq_sub_mod (by omega)]
set_option maxHeartbeats 2000000 in
theorem carryR_ok {st : St} (hw : WF st) {K Kt : Nat → Prop} {o c : AV} {out : List Int} (t : Tok) (ho : OwB st K o out) (hc : RdB st Kt c t.1) (hd : ∀ g, Kt g → ¬ K g) (most : Int) (hl : out.length ≤ 1000000000) (hm : -1000000000000 ≤ most ∧ most ≤ 1000000000000) (htl : t.1.length ≤ 1000000000) :
    ACalls Try.prog 52 [o, .agg [c, i64 t.2.1, i64 t.2.2], i64 most] st (CarryQ K st (carry out t most)) := by
  replace ho := ho.lt hw
  replace hc := hc.lt hw
  have hos := ho.solid
  have hcs := hc.solid
  have hlo := ho.rd.len
  have hlc := hc.len
  have hii := ill_iff t
  refine acalls_of Try.func52 rfl (by kernel_rfl) (by simp [hos]; exact ⟨rfl, rfl⟩) ?_
  repeat (first | (refine aw_seq ?_) | (refine aw_reg0 (by simp only [SZ, Nat.reduceAdd]; exact rfl) ?_) | (refine aw_reg (by decide +kernel) (by simp only [SZ, Nat.reduceAdd]; exact rfl) ?_) | (refine aw_regS (by decide +kernel) (by simp only [SZ, Nat.reduceAdd]; exact rfl) ?_) | (refine arl_nil ?_) | (refine aw_skip ?_) | (refine aw_block ?_) | (refine aw_exit ?_) | (refine aw_ret ?_))
  refine arl_box rfl rfl rfl szTK rfl rfl rfl (fresh hw (Nat.le_add_right _ _)) ?_
  intro s0 hn0 hwf0 hE0 hg0 hD0
  have hw0 : WF s0 := hwf0 (by repeat (first | assumption | (refine WF.bump ?_ _) | (refine WF.put ?_ (by simp only [n_bump, n_put, n_touch, n_kill] at *; omega) (by simp only [n_bump, n_put, n_touch, n_kill] at *; omega)))) (by simp only [n_bump, n_put, n_touch, n_kill] at *; omega)
  replace hE0 : Ext st s0 := Keeps.trans (show Ext st _ from (by repeat (first | exact Keeps.refl _ _ | (refine Keeps.bumpR ?_ _)))) hE0
  have hN0 : s0.n = st.n + 3 := by rw [hn0]; rfl
  obtain ⟨o0, o1, o2, o3⟩ := tkLd hg0
  have bad : ∀ {s : St} {e : Int}, Ext st s → carry out t most = (e, []) → CarryQ K st (carry out t most) (.tup [.pl (.slice none 0 0), i64 e]) s := fun h1 h2 =>
    ⟨h1.mono (fun _ h => h.elim), _, by rw [h2], rfl, by rw [h2]; exact .inl ⟨rfl, rfl⟩⟩
  have hwmo : IntKind.i64.wrap (most - (out.length : Int)) = most - out.length := wrap64_of (by omega) (by omega)
  repeat (first | (refine aw_seq ?_) | (refine aw_reg0 (by simp only [SZ, Nat.reduceAdd]; exact rfl) ?_) | (refine aw_reg (by decide +kernel) (by simp only [SZ, Nat.reduceAdd]; exact rfl) ?_) | (refine aw_regS (by decide +kernel) (by simp only [SZ, Nat.reduceAdd]; exact rfl) ?_) | (refine arl_nil ?_) | (refine aw_skip ?_) | (refine aw_block ?_) | (refine aw_exit ?_) | (refine aw_ret ?_) | (refine arl_cons rfl rfl (by simp +decide only [aop, abuiltin, aeval, aintBin, bin_int, aload_bump, SS, reduceIte, reduceCtorEq, o3]; exact rfl) (by first | rfl | with_reducible assumption) rfl ?_) | (refine arl_none rfl rfl (by simp +decide only [aop, abuiltin, aeval, aintBin, bin_int, aload_bump, SS, reduceIte, reduceCtorEq, o3]; exact rfl) rfl rfl ?_) | (refine arl_off rfl rfl ?_) | (refine aw_condT (by simp +decide only [aop, abuiltin, aeval, aintBin, bin_int, aload_bump, SS, reduceIte, reduceCtorEq, o3]; first | done | exact rfl) ?_) | (refine aw_condF (by simp +decide only [aop, abuiltin, aeval, aintBin, bin_int, aload_bump, SS, reduceIte, reduceCtorEq, o3]; first | done | exact rfl) ?_))
  refine arl_call rfl rfl rfl rfl rfl rfl ((literal_ok (by repeat (first | assumption | (refine WF.bump ?_ _))) t ((hc.up hE0).up (by repeat (first | exact Keeps.refl _ _ | (refine Keeps.bumpR ?_ _))))).wf (by repeat (first | assumption | (refine WF.bump ?_ _) | (refine WF.put ?_ (by simp only [n_bump, n_put, n_touch, n_kill] at *; omega) (by simp only [n_bump, n_put, n_touch, n_kill] at *; omega)))) |>.mono ?_)
  rintro r s1 ⟨hw1, hn1, hE1, rfl⟩
  refine ⟨by first | rfl | with_reducible assumption, ?_⟩
  replace hE1 : Ext s0 s1 := Keeps.trans (by repeat (first | assumption | exact Keeps.refl _ _ | (refine Keeps.bumpR ?_ _) | (refine Keeps.put ?_ (by assumption) (by simp only [n_bump, n_put, n_touch, n_kill] at *; omega)))) hE1
  have hN1 := hE1.n
  have hS1 := hE0.trans hE1
  have hN1' : st.n + 3 ≤ s1.n := by have := hE1.n; omega
  have hg1 := hE1.get _ _ hg0 (fun h => h)
  obtain ⟨o0, o1, o2, o3⟩ := tkLd hg1
  by_cases hlit : litT t = true
  · have hl4 : t.2.1 = 0 ∧ t.2.2 = 0 ∧ 0 < t.1.length ∧ t.1.length ≤ 128 := of_decide_eq_true hlit
    have hni : ¬ ill t = true := by rw [hii, hlit]; simp
    have hor : ¬ (ill t = true ∨ t.2.1 > (out.length : Int)) := fun h => h.elim hni (fun h => by omega)
    rw [hlit]
    by_cases hgt : (t.1.length : Int) > most - (out.length : Int)
    · have d1 := decide_eq_true hgt
      have hcar : carry out t most = (4, []) := by unfold carry; rw [if_neg hor, if_pos (by omega)]
      repeat (first | (refine aw_seq ?_) | (refine aw_reg0 (by simp only [SZ, Nat.reduceAdd]; exact rfl) ?_) | (refine aw_reg (by decide +kernel) (by simp only [SZ, Nat.reduceAdd]; exact rfl) ?_) | (refine aw_regS (by decide +kernel) (by simp only [SZ, Nat.reduceAdd]; exact rfl) ?_) | (refine arl_nil ?_) | (refine aw_skip ?_) | (refine aw_block ?_) | (refine aw_exit ?_) | (refine aw_ret ?_) | (refine arl_cons rfl rfl (by simp +decide only [aop, abuiltin, aeval, aintBin, bin_int, aload_bump, SS, reduceIte, reduceCtorEq, faT0, o0, hlc, hlo, hwmo, d1]; exact rfl) (by first | rfl | with_reducible assumption) rfl ?_) | (refine arl_none rfl rfl (by simp +decide only [aop, abuiltin, aeval, aintBin, bin_int, aload_bump, SS, reduceIte, reduceCtorEq, faT0, o0, hlc, hlo, hwmo, d1]; exact rfl) rfl rfl ?_) | (refine arl_off rfl rfl ?_) | (refine aw_condT (by simp +decide only [aop, abuiltin, aeval, aintBin, bin_int, aload_bump, SS, reduceIte, reduceCtorEq, faT0, o0, hlc, hlo, hwmo, d1]; first | done | exact rfl) ?_) | (refine aw_condF (by simp +decide only [aop, abuiltin, aeval, aintBin, bin_int, aload_bump, SS, reduceIte, reduceCtorEq, faT0, o0, hlc, hlo, hwmo, d1]; first | done | exact rfl) ?_))
      exact ⟨.inr rfl, _, rfl, bad (hS1.trans (by repeat (first | exact Keeps.refl _ _ | (refine Keeps.bumpR ?_ _)))) hcar⟩
    · have d1 := decide_eq_false hgt
      have hcar : carry out t most = (0, out ++ t.1) := by
        unfold carry
        rw [if_neg hor, if_neg (by omega), hl4.1, hl4.2.1]
        rfl
      repeat (first | (refine aw_seq ?_) | (refine aw_reg0 (by simp only [SZ, Nat.reduceAdd]; exact rfl) ?_) | (refine aw_reg (by decide +kernel) (by simp only [SZ, Nat.reduceAdd]; exact rfl) ?_) | (refine aw_regS (by decide +kernel) (by simp only [SZ, Nat.reduceAdd]; exact rfl) ?_) | (refine arl_nil ?_) | (refine aw_skip ?_) | (refine aw_block ?_) | (refine aw_exit ?_) | (refine aw_ret ?_) | (refine arl_cons rfl rfl (by simp +decide only [aop, abuiltin, aeval, aintBin, bin_int, aload_bump, SS, reduceIte, reduceCtorEq, faT0, o0, hlc, hlo, hwmo, d1]; exact rfl) (by first | rfl | with_reducible assumption) rfl ?_) | (refine arl_none rfl rfl (by simp +decide only [aop, abuiltin, aeval, aintBin, bin_int, aload_bump, SS, reduceIte, reduceCtorEq, faT0, o0, hlc, hlo, hwmo, d1]; exact rfl) rfl rfl ?_) | (refine arl_off rfl rfl ?_) | (refine aw_condT (by simp +decide only [aop, abuiltin, aeval, aintBin, bin_int, aload_bump, SS, reduceIte, reduceCtorEq, faT0, o0, hlc, hlo, hwmo, d1]; first | done | exact rfl) ?_) | (refine aw_condF (by simp +decide only [aop, abuiltin, aeval, aintBin, bin_int, aload_bump, SS, reduceIte, reduceCtorEq, faT0, o0, hlc, hlo, hwmo, d1]; first | done | exact rfl) ?_))
      refine aw_rounds_wf (fun m fr s => Keeps (fun g => K g ∧ g < st.n) s1 s ∧ ∃ k : Nat, k ≤ t.1.length ∧ m = t.1.length - k ∧ fr 4 = .ptr (st.n + 0) 0 ∧ fr 8 = i64 k ∧ OwB s (fun g => (K g ∧ g < st.n) ∨ s1.n ≤ g) (fr 0) (out ++ t.1.take k)) ?_ t.1.length _ _ (by repeat (first | assumption | (refine WF.bump ?_ _))) ?_
      · rintro m fr s hws ⟨hE, k, hk, rfl, f4, f8, hO⟩
        have hEn := hE.n
        have hkos := hO.solid
        have hg := hE.get _ _ hg1 (fun h => by have := h.2; simp only at this; omega)
        obtain ⟨p0, p1, p2, p3⟩ := tkLd hg
        by_cases hlt : k < t.1.length
        · have hd3 : decide ((k : Int) < (t.1.length : Int)) = true := decide_eq_true (by omega)
          obtain ⟨q, ix, ixs, il⟩ := ((hc.up hS1).keep hE (fun g h h' => hd g h.1 h'.1)).atN .i64 k hlt
          have hwk := wrap_succ (k := k) (by omega)
          repeat (first | (refine aw_seq ?_) | (refine aw_reg0 (by simp only [SZ, Nat.reduceAdd]; exact rfl) ?_) | (refine aw_reg (by decide +kernel) (by simp only [SZ, Nat.reduceAdd]; exact rfl) ?_) | (refine aw_regS (by decide +kernel) (by simp only [SZ, Nat.reduceAdd]; exact rfl) ?_) | (refine arl_nil ?_) | (refine aw_skip ?_) | (refine aw_block ?_) | (refine aw_exit ?_) | (refine aw_ret ?_) | (refine arl_cons rfl rfl (by simp +decide only [aop, abuiltin, aeval, aintBin, bin_int, aload_bump, SS, reduceIte, reduceCtorEq, f4, f8, faT0, p0, hlc, hd3, ix, il, lit1]; exact rfl) (by first | rfl | with_reducible assumption) rfl ?_) | (refine arl_none rfl rfl (by simp +decide only [aop, abuiltin, aeval, aintBin, bin_int, aload_bump, SS, reduceIte, reduceCtorEq, f4, f8, faT0, p0, hlc, hd3, ix, il, lit1]; exact rfl) rfl rfl ?_) | (refine arl_off rfl rfl ?_) | (refine aw_condT (by simp +decide only [aop, abuiltin, aeval, aintBin, bin_int, aload_bump, SS, reduceIte, reduceCtorEq, f4, f8, faT0, p0, hlc, hd3, ix, il, lit1]; first | done | exact rfl) ?_) | (refine aw_condF (by simp +decide only [aop, abuiltin, aeval, aintBin, bin_int, aload_bump, SS, reduceIte, reduceCtorEq, f4, f8, faT0, p0, hlc, hd3, ix, il, lit1]; first | done | exact rfl) ?_))
          refine arl_appW (K := fun g => (K g ∧ g < st.n) ∨ s1.n ≤ g) (K' := fun _ => True) (xs := out ++ t.1.take k) (ns := [t.1[k]]) rfl rfl rfl (hO.up (by repeat (first | assumption | exact Keeps.refl _ _ | (refine Keeps.bumpR ?_ _) | (refine Keeps.put ?_ (by assumption) (by simp only [n_bump, n_put, n_touch, n_kill] at *; omega))))) (RdB.lit _ _ _ [_]) (.inr (by first | omega | (simp only [n_bump, n_put]; omega) | (simp only [n_bump, n_put] at *; omega))) (by simp; omega) ?_
          intro y s3 hO3 hn3 hK3 hwf3
          have hys3 := hO3.solid
          have hE3 : Keeps (fun g => K g ∧ g < st.n) s1 s3 := hK3 _ s1 hw1 (by repeat (first | exact hE | (refine Keeps.bumpR ?_ _) | (refine Keeps.put ?_ (by assumption) (by first | omega | (simp only [n_bump, n_put]; omega) | (simp only [n_bump, n_put] at *; omega))))) (by first | omega | (simp only [n_bump, n_put]; omega) | (simp only [n_bump, n_put] at *; omega)) (fun g h => h)
          repeat (first | (refine aw_seq ?_) | (refine aw_reg0 (by simp only [SZ, Nat.reduceAdd]; exact rfl) ?_) | (refine aw_reg (by decide +kernel) (by simp only [SZ, Nat.reduceAdd]; exact rfl) ?_) | (refine aw_regS (by decide +kernel) (by simp only [SZ, Nat.reduceAdd]; exact rfl) ?_) | (refine arl_nil ?_) | (refine aw_skip ?_) | (refine aw_block ?_) | (refine aw_exit ?_) | (refine aw_ret ?_) | (refine arl_cons rfl rfl (by simp +decide only [aop, abuiltin, aeval, aintBin, bin_int, aload_bump, SS, reduceIte, reduceCtorEq, f8, hwk]; exact rfl) (by first | rfl | with_reducible assumption) rfl ?_) | (refine arl_none rfl rfl (by simp +decide only [aop, abuiltin, aeval, aintBin, bin_int, aload_bump, SS, reduceIte, reduceCtorEq, f8, hwk]; exact rfl) rfl rfl ?_) | (refine arl_off rfl rfl ?_) | (refine aw_condT (by simp +decide only [aop, abuiltin, aeval, aintBin, bin_int, aload_bump, SS, reduceIte, reduceCtorEq, f8, hwk]; first | done | exact rfl) ?_) | (refine aw_condF (by simp +decide only [aop, abuiltin, aeval, aintBin, bin_int, aload_bump, SS, reduceIte, reduceCtorEq, f8, hwk]; first | done | exact rfl) ?_))
          exact ⟨t.1.length - (k + 1), by omega, hE3.trans (Keeps.mono (G := fun _ => False) (by repeat (first | exact Keeps.refl _ _ | (refine Keeps.bumpR ?_ _))) (fun _ h => h.elim)), k + 1, by omega, rfl, f4, rfl, by rw [List.take_succ_eq_append_getElem hlt, ← List.append_assoc]; exact hO3.up (by repeat (first | exact Keeps.refl _ _ | (refine Keeps.bumpR ?_ _)))⟩
        · have hd3 : decide ((k : Int) < (t.1.length : Int)) = false := decide_eq_false (by omega)
          rw [List.take_of_length_le (by omega)] at hO
          repeat (first | (refine aw_seq ?_) | (refine aw_reg0 (by simp only [SZ, Nat.reduceAdd]; exact rfl) ?_) | (refine aw_reg (by decide +kernel) (by simp only [SZ, Nat.reduceAdd]; exact rfl) ?_) | (refine aw_regS (by decide +kernel) (by simp only [SZ, Nat.reduceAdd]; exact rfl) ?_) | (refine arl_nil ?_) | (refine aw_skip ?_) | (refine aw_block ?_) | (refine aw_exit ?_) | (refine aw_ret ?_) | (refine arl_cons rfl rfl (by simp +decide only [aop, abuiltin, aeval, aintBin, bin_int, aload_bump, SS, reduceIte, reduceCtorEq, f4, f8, faT0, p0, hlc, hd3]; exact rfl) (by first | rfl | with_reducible assumption) rfl ?_) | (refine arl_none rfl rfl (by simp +decide only [aop, abuiltin, aeval, aintBin, bin_int, aload_bump, SS, reduceIte, reduceCtorEq, f4, f8, faT0, p0, hlc, hd3]; exact rfl) rfl rfl ?_) | (refine arl_off rfl rfl ?_) | (refine aw_condT (by simp +decide only [aop, abuiltin, aeval, aintBin, bin_int, aload_bump, SS, reduceIte, reduceCtorEq, f4, f8, faT0, p0, hlc, hd3]; first | done | exact rfl) ?_) | (refine aw_condF (by simp +decide only [aop, abuiltin, aeval, aintBin, bin_int, aload_bump, SS, reduceIte, reduceCtorEq, f4, f8, faT0, p0, hlc, hd3]; first | done | exact rfl) ?_))
          refine ⟨.inr rfl, _, rfl, ?_⟩
          rw [hcar]
          exact ⟨(hS1.mono (fun _ h => h.elim)).trans ((hE.mono (fun g h => h.1)).trans (Keeps.mono (G := fun _ => False) (by repeat (first | exact Keeps.refl _ _ | (refine Keeps.bumpR ?_ _))) (fun _ h => h.elim))), _, rfl, hkos, (hO.mono (fun g h => h.elim (fun h => .inl h.1) (fun h => .inr (by omega)))).up (by repeat (first | exact Keeps.refl _ _ | (refine Keeps.bumpR ?_ _)))⟩
      · exact ⟨Keeps.mono (G := fun _ => False) (by repeat (first | exact Keeps.refl _ _ | (refine Keeps.bumpR ?_ _))) (fun _ h => h.elim), 0, by omega, rfl, rfl, rfl, by rw [List.take_zero, List.append_nil]; exact ((ho.up hS1).mono (fun g h => .inl h)).up (by repeat (first | exact Keeps.refl _ _ | (refine Keeps.bumpR ?_ _)))⟩
  · have hlf : litT t = false := by simpa using hlit
    rw [hlf] at hii ⊢
    repeat (first | (refine aw_seq ?_) | (refine aw_reg0 (by simp only [SZ, Nat.reduceAdd]; exact rfl) ?_) | (refine aw_reg (by decide +kernel) (by simp only [SZ, Nat.reduceAdd]; exact rfl) ?_) | (refine aw_regS (by decide +kernel) (by simp only [SZ, Nat.reduceAdd]; exact rfl) ?_) | (refine arl_nil ?_) | (refine aw_skip ?_) | (refine aw_block ?_) | (refine aw_exit ?_) | (refine aw_ret ?_) | (refine arl_cons rfl rfl (by simp +decide only [aop, abuiltin, aeval, aintBin, bin_int, aload_bump, SS, reduceIte, reduceCtorEq, o3]; exact rfl) (by first | rfl | with_reducible assumption) rfl ?_) | (refine arl_none rfl rfl (by simp +decide only [aop, abuiltin, aeval, aintBin, bin_int, aload_bump, SS, reduceIte, reduceCtorEq, o3]; exact rfl) rfl rfl ?_) | (refine arl_off rfl rfl ?_) | (refine aw_condT (by simp +decide only [aop, abuiltin, aeval, aintBin, bin_int, aload_bump, SS, reduceIte, reduceCtorEq, o3]; first | done | exact rfl) ?_) | (refine aw_condF (by simp +decide only [aop, abuiltin, aeval, aintBin, bin_int, aload_bump, SS, reduceIte, reduceCtorEq, o3]; first | done | exact rfl) ?_))
    refine arl_call rfl rfl rfl rfl rfl rfl ((copiesR_ok (by repeat (first | assumption | (refine WF.bump ?_ _))) t ((hc.up hS1).up (by repeat (first | exact Keeps.refl _ _ | (refine Keeps.bumpR ?_ _))))).wf (by repeat (first | assumption | (refine WF.bump ?_ _) | (refine WF.put ?_ (by simp only [n_bump, n_put, n_touch, n_kill] at *; omega) (by simp only [n_bump, n_put, n_touch, n_kill] at *; omega)))) |>.mono ?_)
    rintro r s2 ⟨hw2, hn2, hE2, rfl⟩
    refine ⟨by first | rfl | with_reducible assumption, ?_⟩
    replace hE2 : Ext s1 s2 := Keeps.trans (by repeat (first | assumption | exact Keeps.refl _ _ | (refine Keeps.bumpR ?_ _) | (refine Keeps.put ?_ (by assumption) (by simp only [n_bump, n_put, n_touch, n_kill] at *; omega)))) hE2
    have hN2 := hE2.n
    have hS2 := hS1.trans hE2
    have hg2 := hE2.get _ _ hg1 (fun h => h)
    obtain ⟨o0, o1, o2, o3⟩ := tkLd hg2
    by_cases hcp : copT t = true
    · rw [hcp] at hii ⊢
      have hc5 : ¬ (0 < t.1.length) ∧ 1 ≤ t.2.1 ∧ t.2.1 ≤ 4096 ∧ 4 ≤ t.2.2 ∧ t.2.2 ≤ 131 := of_decide_eq_true hcp
      have hni : ¬ ill t = true := by rw [hii]; decide
      have hnil : t.1 = [] := List.eq_nil_of_length_eq_zero (by omega)
      by_cases hgt : t.2.1 > (out.length : Int)
      · have d1 := decide_eq_true hgt
        have hcar : carry out t most = (50, []) := by unfold carry; rw [if_pos (.inr hgt)]
        repeat (first | (refine aw_seq ?_) | (refine aw_reg0 (by simp only [SZ, Nat.reduceAdd]; exact rfl) ?_) | (refine aw_reg (by decide +kernel) (by simp only [SZ, Nat.reduceAdd]; exact rfl) ?_) | (refine aw_regS (by decide +kernel) (by simp only [SZ, Nat.reduceAdd]; exact rfl) ?_) | (refine arl_nil ?_) | (refine aw_skip ?_) | (refine aw_block ?_) | (refine aw_exit ?_) | (refine aw_ret ?_) | (refine arl_cons rfl rfl (by simp +decide only [aop, abuiltin, aeval, aintBin, bin_int, aload_bump, SS, reduceIte, reduceCtorEq, faT1, o1, hlo, d1]; exact rfl) (by first | rfl | with_reducible assumption) rfl ?_) | (refine arl_none rfl rfl (by simp +decide only [aop, abuiltin, aeval, aintBin, bin_int, aload_bump, SS, reduceIte, reduceCtorEq, faT1, o1, hlo, d1]; exact rfl) rfl rfl ?_) | (refine arl_off rfl rfl ?_) | (refine aw_condT (by simp +decide only [aop, abuiltin, aeval, aintBin, bin_int, aload_bump, SS, reduceIte, reduceCtorEq, faT1, o1, hlo, d1]; first | done | exact rfl) ?_) | (refine aw_condF (by simp +decide only [aop, abuiltin, aeval, aintBin, bin_int, aload_bump, SS, reduceIte, reduceCtorEq, faT1, o1, hlo, d1]; first | done | exact rfl) ?_))
        exact ⟨.inr rfl, _, rfl, bad (hS2.trans (by repeat (first | exact Keeps.refl _ _ | (refine Keeps.bumpR ?_ _)))) hcar⟩
      · have d1 := decide_eq_false hgt
        have hor : ¬ (ill t = true ∨ t.2.1 > (out.length : Int)) := fun h => h.elim hni hgt
        by_cases hlong : t.2.2 > most - (out.length : Int)
        · have d2 := decide_eq_true hlong
          have hcar : carry out t most = (4, []) := by unfold carry; rw [if_neg hor, if_pos (by omega)]
          repeat (first | (refine aw_seq ?_) | (refine aw_reg0 (by simp only [SZ, Nat.reduceAdd]; exact rfl) ?_) | (refine aw_reg (by decide +kernel) (by simp only [SZ, Nat.reduceAdd]; exact rfl) ?_) | (refine aw_regS (by decide +kernel) (by simp only [SZ, Nat.reduceAdd]; exact rfl) ?_) | (refine arl_nil ?_) | (refine aw_skip ?_) | (refine aw_block ?_) | (refine aw_exit ?_) | (refine aw_ret ?_) | (refine arl_cons rfl rfl (by simp +decide only [aop, abuiltin, aeval, aintBin, bin_int, aload_bump, SS, reduceIte, reduceCtorEq, faT1, faT2, o1, o2, hlo, d1, hwmo, d2]; exact rfl) (by first | rfl | with_reducible assumption) rfl ?_) | (refine arl_none rfl rfl (by simp +decide only [aop, abuiltin, aeval, aintBin, bin_int, aload_bump, SS, reduceIte, reduceCtorEq, faT1, faT2, o1, o2, hlo, d1, hwmo, d2]; exact rfl) rfl rfl ?_) | (refine arl_off rfl rfl ?_) | (refine aw_condT (by simp +decide only [aop, abuiltin, aeval, aintBin, bin_int, aload_bump, SS, reduceIte, reduceCtorEq, faT1, faT2, o1, o2, hlo, d1, hwmo, d2]; first | done | exact rfl) ?_) | (refine aw_condF (by simp +decide only [aop, abuiltin, aeval, aintBin, bin_int, aload_bump, SS, reduceIte, reduceCtorEq, faT1, faT2, o1, o2, hlo, d1, hwmo, d2]; first | done | exact rfl) ?_))
          exact ⟨.inr rfl, _, rfl, bad (hS2.trans (by repeat (first | exact Keeps.refl _ _ | (refine Keeps.bumpR ?_ _)))) hcar⟩
        · have d2 := decide_eq_false hlong
          obtain ⟨n, hn⟩ : ∃ n : Nat, t.2.2 = n := ⟨t.2.2.toNat, by omega⟩
          obtain ⟨d, hdd⟩ : ∃ d : Nat, t.2.1 = d := ⟨t.2.1.toNat, by omega⟩
          have hcar : carry out t most = (0, cp d out n) := by
            unfold carry
            rw [if_neg hor, if_neg (by omega), hn, hdd, Int.toNat_natCast, Int.toNat_natCast, hnil, List.append_nil]
          have hwf1 : IntKind.i64.wrap ((out.length : Int) - t.2.1) = ((out.length - d : Nat) : Int) := by rw [wrap64_of (by omega) (by omega)]; omega
          repeat (first | (refine aw_seq ?_) | (refine aw_reg0 (by simp only [SZ, Nat.reduceAdd]; exact rfl) ?_) | (refine aw_reg (by decide +kernel) (by simp only [SZ, Nat.reduceAdd]; exact rfl) ?_) | (refine aw_regS (by decide +kernel) (by simp only [SZ, Nat.reduceAdd]; exact rfl) ?_) | (refine arl_nil ?_) | (refine aw_skip ?_) | (refine aw_block ?_) | (refine aw_exit ?_) | (refine aw_ret ?_) | (refine arl_cons rfl rfl (by simp +decide only [aop, abuiltin, aeval, aintBin, bin_int, aload_bump, SS, reduceIte, reduceCtorEq, faT1, faT2, o1, o2, hlo, d1, hwmo, d2, hwf1]; exact rfl) (by first | rfl | with_reducible assumption) rfl ?_) | (refine arl_none rfl rfl (by simp +decide only [aop, abuiltin, aeval, aintBin, bin_int, aload_bump, SS, reduceIte, reduceCtorEq, faT1, faT2, o1, o2, hlo, d1, hwmo, d2, hwf1]; exact rfl) rfl rfl ?_) | (refine arl_off rfl rfl ?_) | (refine aw_condT (by simp +decide only [aop, abuiltin, aeval, aintBin, bin_int, aload_bump, SS, reduceIte, reduceCtorEq, faT1, faT2, o1, o2, hlo, d1, hwmo, d2, hwf1]; first | done | exact rfl) ?_) | (refine aw_condF (by simp +decide only [aop, abuiltin, aeval, aintBin, bin_int, aload_bump, SS, reduceIte, reduceCtorEq, faT1, faT2, o1, o2, hlo, d1, hwmo, d2, hwf1]; first | done | exact rfl) ?_))
          have hN2' : s1.n ≤ s2.n := hE2.n
          refine aw_rounds_wf (fun m fr s => Keeps (fun g => K g ∧ g < st.n) s2 s ∧ ∃ k : Nat, k ≤ n ∧ m = n - k ∧ fr 4 = .ptr (st.n + 0) 0 ∧ fr 9 = i64 ((out.length - d : Nat) : Int) ∧ fr 10 = i64 k ∧ OwB s (fun g => (K g ∧ g < st.n) ∨ s2.n ≤ g) (fr 0) (cp d out k)) ?_ n _ _ (by repeat (first | assumption | (refine WF.bump ?_ _))) ?_
          · rintro m fr s hws ⟨hE, k, hk, rfl, f4, f9, f10, hO⟩
            have hEn := hE.n
            have hkos := hO.solid
            have hg := hE.get _ _ hg2 (fun h => by have := h.2; simp only at this; omega)
            obtain ⟨p0, p1, p2, p3⟩ := tkLd hg
            rw [hdd] at p1
            rw [hn] at p2
            have hcl := cp_len d out k
            by_cases hlt : k < n
            · have hd3 : decide ((k : Int) < (n : Int)) = true := decide_eq_true (by omega)
              have hmod := Nat.mod_lt k (show 0 < d by omega)
              have hdz : (d : Int) ≠ 0 := by omega
              have htm : (k : Int).tmod (d : Int) = ((k % d : Nat) : Int) := by rw [Int.tmod_eq_emod_of_nonneg (by omega)]; rfl
              have hwi : IntKind.i64.wrap (((out.length - d : Nat) : Int) + ((k % d : Nat) : Int)) = ((out.length - d + k % d : Nat) : Int) := by rw [wrap64_of (by omega) (by omega)]; omega
              obtain ⟨q, ix, ixs, il⟩ := hO.rd.at .i64 ((out.length - d + k % d : Nat) : Int) (by omega) (by omega)
              rw [Int.toNat_natCast, ← cp_ref (by omega) (by omega)] at il
              have hwk := wrap_succ (k := k) (by omega)
              repeat (first | (refine aw_seq ?_) | (refine aw_reg0 (by simp only [SZ, Nat.reduceAdd]; exact rfl) ?_) | (refine aw_reg (by decide +kernel) (by simp only [SZ, Nat.reduceAdd]; exact rfl) ?_) | (refine aw_regS (by decide +kernel) (by simp only [SZ, Nat.reduceAdd]; exact rfl) ?_) | (refine arl_nil ?_) | (refine aw_skip ?_) | (refine aw_block ?_) | (refine aw_exit ?_) | (refine aw_ret ?_) | (refine arl_cons rfl rfl (by simp +decide only [aop, abuiltin, aeval, aintBin, bin_int, aload_bump, SS, reduceIte, reduceCtorEq, f4, f9, f10, faT1, faT2, p1, p2, hd3, hdz, htm, hwi, ix, il, lit1]; exact rfl) (by first | rfl | with_reducible assumption) rfl ?_) | (refine arl_none rfl rfl (by simp +decide only [aop, abuiltin, aeval, aintBin, bin_int, aload_bump, SS, reduceIte, reduceCtorEq, f4, f9, f10, faT1, faT2, p1, p2, hd3, hdz, htm, hwi, ix, il, lit1]; exact rfl) rfl rfl ?_) | (refine arl_off rfl rfl ?_) | (refine aw_condT (by simp +decide only [aop, abuiltin, aeval, aintBin, bin_int, aload_bump, SS, reduceIte, reduceCtorEq, f4, f9, f10, faT1, faT2, p1, p2, hd3, hdz, htm, hwi, ix, il, lit1]; first | done | exact rfl) ?_) | (refine aw_condF (by simp +decide only [aop, abuiltin, aeval, aintBin, bin_int, aload_bump, SS, reduceIte, reduceCtorEq, f4, f9, f10, faT1, faT2, p1, p2, hd3, hdz, htm, hwi, ix, il, lit1]; first | done | exact rfl) ?_))
              refine arl_appW (K := fun g => (K g ∧ g < st.n) ∨ s2.n ≤ g) (K' := fun _ => True) (xs := cp d out k) (ns := [(cp d out k).getD ((cp d out k).length - d) 0]) rfl rfl rfl (hO.up (by repeat (first | assumption | exact Keeps.refl _ _ | (refine Keeps.bumpR ?_ _) | (refine Keeps.put ?_ (by assumption) (by simp only [n_bump, n_put, n_touch, n_kill] at *; omega))))) (RdB.lit _ _ _ [_]) (.inr (by first | omega | (simp only [n_bump, n_put]; omega) | (simp only [n_bump, n_put] at *; omega))) (by simp; omega) ?_
              intro y s3 hO3 hn3 hK3 hwf3
              have hys3 := hO3.solid
              have hE3 : Keeps (fun g => K g ∧ g < st.n) s2 s3 := hK3 _ s2 hw2 (by repeat (first | exact hE | (refine Keeps.bumpR ?_ _) | (refine Keeps.put ?_ (by assumption) (by first | omega | (simp only [n_bump, n_put]; omega) | (simp only [n_bump, n_put] at *; omega))))) (by first | omega | (simp only [n_bump, n_put]; omega) | (simp only [n_bump, n_put] at *; omega)) (fun g h => h)
              repeat (first | (refine aw_seq ?_) | (refine aw_reg0 (by simp only [SZ, Nat.reduceAdd]; exact rfl) ?_) | (refine aw_reg (by decide +kernel) (by simp only [SZ, Nat.reduceAdd]; exact rfl) ?_) | (refine aw_regS (by decide +kernel) (by simp only [SZ, Nat.reduceAdd]; exact rfl) ?_) | (refine arl_nil ?_) | (refine aw_skip ?_) | (refine aw_block ?_) | (refine aw_exit ?_) | (refine aw_ret ?_) | (refine arl_cons rfl rfl (by simp +decide only [aop, abuiltin, aeval, aintBin, bin_int, aload_bump, SS, reduceIte, reduceCtorEq, f10, hwk]; exact rfl) (by first | rfl | with_reducible assumption) rfl ?_) | (refine arl_none rfl rfl (by simp +decide only [aop, abuiltin, aeval, aintBin, bin_int, aload_bump, SS, reduceIte, reduceCtorEq, f10, hwk]; exact rfl) rfl rfl ?_) | (refine arl_off rfl rfl ?_) | (refine aw_condT (by simp +decide only [aop, abuiltin, aeval, aintBin, bin_int, aload_bump, SS, reduceIte, reduceCtorEq, f10, hwk]; first | done | exact rfl) ?_) | (refine aw_condF (by simp +decide only [aop, abuiltin, aeval, aintBin, bin_int, aload_bump, SS, reduceIte, reduceCtorEq, f10, hwk]; first | done | exact rfl) ?_))
              exact ⟨n - (k + 1), by omega, hE3.trans (Keeps.mono (G := fun _ => False) (by repeat (first | exact Keeps.refl _ _ | (refine Keeps.bumpR ?_ _))) (fun _ h => h.elim)), k + 1, by omega, rfl, f4, f9, rfl, hO3.up (by repeat (first | exact Keeps.refl _ _ | (refine Keeps.bumpR ?_ _)))⟩
            · have hd3 : decide ((k : Int) < (n : Int)) = false := decide_eq_false (by omega)
              obtain rfl : k = n := by omega
              repeat (first | (refine aw_seq ?_) | (refine aw_reg0 (by simp only [SZ, Nat.reduceAdd]; exact rfl) ?_) | (refine aw_reg (by decide +kernel) (by simp only [SZ, Nat.reduceAdd]; exact rfl) ?_) | (refine aw_regS (by decide +kernel) (by simp only [SZ, Nat.reduceAdd]; exact rfl) ?_) | (refine arl_nil ?_) | (refine aw_skip ?_) | (refine aw_block ?_) | (refine aw_exit ?_) | (refine aw_ret ?_) | (refine arl_cons rfl rfl (by simp +decide only [aop, abuiltin, aeval, aintBin, bin_int, aload_bump, SS, reduceIte, reduceCtorEq, f4, f10, faT2, p2, hd3]; exact rfl) (by first | rfl | with_reducible assumption) rfl ?_) | (refine arl_none rfl rfl (by simp +decide only [aop, abuiltin, aeval, aintBin, bin_int, aload_bump, SS, reduceIte, reduceCtorEq, f4, f10, faT2, p2, hd3]; exact rfl) rfl rfl ?_) | (refine arl_off rfl rfl ?_) | (refine aw_condT (by simp +decide only [aop, abuiltin, aeval, aintBin, bin_int, aload_bump, SS, reduceIte, reduceCtorEq, f4, f10, faT2, p2, hd3]; first | done | exact rfl) ?_) | (refine aw_condF (by simp +decide only [aop, abuiltin, aeval, aintBin, bin_int, aload_bump, SS, reduceIte, reduceCtorEq, f4, f10, faT2, p2, hd3]; first | done | exact rfl) ?_))
              refine ⟨.inr rfl, _, rfl, ?_⟩
              rw [hcar]
              exact ⟨(hS2.mono (fun _ h => h.elim)).trans ((hE.mono (fun g h => h.1)).trans (Keeps.mono (G := fun _ => False) (by repeat (first | exact Keeps.refl _ _ | (refine Keeps.bumpR ?_ _))) (fun _ h => h.elim))), _, rfl, hkos, (hO.mono (fun g h => h.elim (fun h => .inl h.1) (fun h => .inr (by omega)))).up (by repeat (first | exact Keeps.refl _ _ | (refine Keeps.bumpR ?_ _)))⟩
          · exact ⟨Keeps.mono (G := fun _ => False) (by repeat (first | exact Keeps.refl _ _ | (refine Keeps.bumpR ?_ _))) (fun _ h => h.elim), 0, by omega, rfl, rfl, rfl, rfl, ((ho.up hS2).mono (fun g h => .inl h)).up (by repeat (first | exact Keeps.refl _ _ | (refine Keeps.bumpR ?_ _)))⟩
    · have hcf : copT t = false := by simpa using hcp
      rw [hcf] at hii ⊢
      have hcar : carry out t most = (50, []) := by unfold carry; rw [if_pos (.inl (by rw [hii]; decide))]
      repeat (first | (refine aw_seq ?_) | (refine aw_reg0 (by simp only [SZ, Nat.reduceAdd]; exact rfl) ?_) | (refine aw_reg (by decide +kernel) (by simp only [SZ, Nat.reduceAdd]; exact rfl) ?_) | (refine aw_regS (by decide +kernel) (by simp only [SZ, Nat.reduceAdd]; exact rfl) ?_) | (refine arl_nil ?_) | (refine aw_skip ?_) | (refine aw_block ?_) | (refine aw_exit ?_) | (refine aw_ret ?_) | (refine arl_cons rfl rfl (by simp +decide only [aop, abuiltin, aeval, aintBin, bin_int, aload_bump, SS, reduceIte, reduceCtorEq]; exact rfl) (by first | rfl | with_reducible assumption) rfl ?_) | (refine arl_none rfl rfl (by simp +decide only [aop, abuiltin, aeval, aintBin, bin_int, aload_bump, SS, reduceIte, reduceCtorEq]; exact rfl) rfl rfl ?_) | (refine arl_off rfl rfl ?_) | (refine aw_condT (by simp +decide only [aop, abuiltin, aeval, aintBin, bin_int, aload_bump, SS, reduceIte, reduceCtorEq]; first | done | exact rfl) ?_) | (refine aw_condF (by simp +decide only [aop, abuiltin, aeval, aintBin, bin_int, aload_bump, SS, reduceIte, reduceCtorEq]; first | done | exact rfl) ?_))
      exact ⟨.inr rfl, _, rfl, bad (hS2.trans (by repeat (first | exact Keeps.refl _ _ | (refine Keeps.bumpR ?_ _)))) hcar⟩
end Go.Proofs.Ytoohookgimkhbaa.Ra
