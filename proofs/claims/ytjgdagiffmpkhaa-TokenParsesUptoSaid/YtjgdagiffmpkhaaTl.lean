/- leatlaw05.TokenBack. -/
import Derived.Test.YtjgdagiffmpkhaaTk
namespace Go.Proofs.Ytjgdagiffmpkhaa.Ra
open Go Go.RowKit
set_option linter.unusedVariables false
set_option linter.unusedSimpArgs false
set_option maxRecDepth 10000
/- What is read is what is written of it. -/
theorem one_enc {b : List Int} (h : (one b).1 = 0) (hne : b ≠ []) (hby : ∀ x ∈ b, 0 ≤ x ∧ x < 256) : ¬ ill (one b).2.1 = true ∧ enc (one b).2.1 = b.take (one b).2.2 := by
  obtain ⟨c, r, rfl⟩ : ∃ c r, b = c :: r := by
    cases b with
    | nil => exact absurd rfl hne
    | cons c r => exact ⟨c, r, rfl⟩
  have hc := hby c (by simp)
  have hg0 : (c :: r).getD 0 0 = c := rfl
  unfold one at h ⊢
  rw [hg0] at h ⊢
  by_cases h1 : c < 128
  · rw [if_pos h1] at h ⊢
    by_cases h2 : ((c :: r).length : Int) < c + 2
    · rw [if_pos h2] at h; cases h
    · rw [if_neg h2]
      obtain ⟨k, rfl⟩ : ∃ k : Nat, c = k := ⟨c.toNat, by omega⟩
      simp only [List.length_cons] at h2
      rw [Int.toNat_natCast]
      have hl : ((((k : Int) :: r).drop 1).take (k + 1)).length = k + 1 := by simp; omega
      have hcp : cop ((((k : Int) :: r).drop 1).take (k + 1), 0, 0) = false := by simp [cop]
      refine ⟨?_, ?_⟩
      · unfold ill
        rw [if_neg (by rw [hcp]; simp)]
        simp only [decide_eq_true_eq, hl]
        omega
      · unfold enc
        rw [if_neg (by rw [hcp]; simp)]
        simp only [hl]
        rw [show ((k + 1 : Nat) : Int) - 1 = k by omega]
        rfl
  · rw [if_neg h1] at h ⊢
    by_cases h2 : (c :: r).length < 3
    · rw [if_pos h2] at h; cases h
    · rw [if_neg h2] at h ⊢
      split at h
      · cases h
      · rename_i h3
        rw [if_neg h3]
        refine ⟨h3, ?_⟩
        obtain ⟨x, y, r', rfl⟩ : ∃ x y r', r = x :: y :: r' := by
          match r, h2 with
          | x :: y :: r', _ => exact ⟨x, y, r', rfl⟩
          | [x], h => simp at h
          | [], h => simp at h
        have hx := hby x (by simp)
        have hy := hby y (by simp)
        have hcp : cop (([] : List Int), x * 256 + y, c - 124) = true := by simp [cop]; omega
        show enc ([], x * 256 + y, c - 124) = [c, x, y]
        unfold enc
        rw [if_pos hcp]
        simp only [List.cons.injEq, and_true]
        omega
theorem pars_pr : ∀ (f : Nat) (b : List Int) (acc : List Tok), b.length ≤ f → (∀ x ∈ b, 0 ≤ x ∧ x < 256) → (pars b.length b acc).1 = 0 → ∃ ts, (pars b.length b acc).2 = acc ++ ts ∧ ∀ out, pr ts out = (0, out ++ b) := by
  intro f
  induction f with
  | zero =>
    intro b acc hf _ _
    have : b = [] := List.eq_nil_of_length_eq_zero (by omega)
    subst this
    exact ⟨[], by simp [pars], fun out => by simp [pr]⟩
  | succ f ih =>
    intro b acc hf hby h
    by_cases hne : b = []
    · subst hne
      exact ⟨[], by simp [pars], fun out => by simp [pr]⟩
    · rw [pars_step b acc hby hne] at h ⊢
      by_cases h1 : (one b).1 ≠ 0
      · rw [if_pos h1] at h
        exact absurd h h1
      · rw [if_neg h1] at h ⊢
        have h1' : (one b).1 = 0 := by simpa using h1
        obtain ⟨k1, k2, k3⟩ := one_len h1' hby
        obtain ⟨e1, e2⟩ := one_enc h1' hne hby
        obtain ⟨ts, h3, h4⟩ := ih (b.drop (one b).2.2) (acc ++ [(one b).2.1]) (by rw [List.length_drop]; omega) (fun x hx => hby x (List.mem_of_mem_drop hx)) h
        refine ⟨(one b).2.1 :: ts, by rw [h3]; simp, fun out => ?_⟩
        rw [pr, if_neg e1, h4, e2, List.append_assoc, List.take_append_drop]
/- What is written is read back. -/
theorem enc_one {t : Tok} (h : ¬ ill t = true) (hby : ∀ x ∈ t.1, 0 ≤ x ∧ x < 256) (r : List Int) : one (enc t ++ r) = (0, t, (enc t).length) := by
  obtain ⟨lit, d, n⟩ := t
  have hi := h
  obtain ⟨r1, r2, r3, r4, r5, r6⟩ := ill_range h
  simp only at r1 r2 r3 r4 r5 r6
  unfold ill at h
  by_cases hcp : cop (lit, d, n) = true
  · rw [if_pos hcp] at h
    simp only [decide_eq_true_eq] at h
    have hnil : lit = [] := List.eq_nil_of_length_eq_zero (by omega)
    subst hnil
    have he : enc ([], d, n) = [124 + n, d / 256, d % 256] := by unfold enc; rw [if_pos hcp]
    rw [he]
    have e1 : d / 256 * 256 + d % 256 = d := by omega
    have e2 : 124 + n - 124 = n := by omega
    show one ((124 + n) :: (d / 256) :: (d % 256) :: r) = _
    unfold one
    show (if (124 + n) < 128 then _ else _) = _
    rw [if_neg (by omega), if_neg (by simp)]
    show (if ill ([], d / 256 * 256 + d % 256, 124 + n - 124) = true then _ else (0, (([] : List Int), d / 256 * 256 + d % 256, 124 + n - 124), 3)) = _
    rw [e1, e2, if_neg hi]
    rfl
  · rw [if_neg hcp] at h
    simp only [decide_eq_true_eq] at h
    have h0 : d = 0 ∧ n = 0 := by
      simp only [cop, decide_eq_true_eq] at hcp
      omega
    obtain ⟨rfl, rfl⟩ := h0
    have he : enc (lit, 0, 0) = ((lit.length : Int) - 1) :: lit := by unfold enc; rw [if_neg hcp]
    rw [he]
    unfold one
    show (if ((lit.length : Int) - 1) < 128 then (if (((((lit.length : Int) - 1) :: lit) ++ r).length : Int) < ((lit.length : Int) - 1) + 2 then _ else (0, ((lit ++ r).take (((lit.length : Int) - 1).toNat + 1), 0, 0), ((lit.length : Int) - 1).toNat + 2)) else _) = _
    rw [if_pos (by omega), if_neg (by simp; omega)]
    have e : ((lit.length : Int) - 1).toNat + 1 = lit.length := by omega
    rw [e, List.take_left]
    simp only [List.length_cons, Prod.mk.injEq, true_and]
    omega
theorem pr_all : ∀ (ts : List Tok) (out : List Int), (pr ts out).1 = 0 → (∀ t ∈ ts, ¬ ill t = true) ∧ (pr ts out).2 = out ++ (ts.map enc).flatten := by
  intro ts
  induction ts with
  | nil => intro out _; simp [pr]
  | cons t ts ih =>
    intro out h
    rw [pr] at h ⊢
    by_cases hi : ill t = true
    · rw [if_pos hi] at h; cases h
    · rw [if_neg hi] at h ⊢
      obtain ⟨h1, h2⟩ := ih _ h
      refine ⟨fun u hu => ?_, by rw [h2]; simp⟩
      rcases List.mem_cons.1 hu with rfl | hu
      · exact hi
      · exact h1 u hu
theorem enc_by {t : Tok} (h : ¬ ill t = true) (hby : ∀ x ∈ t.1, 0 ≤ x ∧ x < 256) : ∀ x ∈ enc t, 0 ≤ x ∧ x < 256 := by
  obtain ⟨r1, r2, r3, r4, r5, r6⟩ := ill_range h
  intro x hx
  unfold enc at hx
  split at hx
  · simp only [List.mem_cons, List.not_mem_nil, or_false] at hx
    rcases hx with rfl | rfl | rfl <;> omega
  · rename_i hcp
    unfold ill at h
    rw [if_neg hcp] at h
    simp only [decide_eq_true_eq] at h
    rcases List.mem_cons.1 hx with rfl | hx
    · omega
    · exact hby x hx
theorem enc_ne (t : Tok) : enc t ≠ [] := by
  unfold enc
  split <;> simp
theorem pars_enc : ∀ (ts acc : List Tok), (∀ t ∈ ts, ¬ ill t = true) → (∀ t ∈ ts, ∀ x ∈ t.1, 0 ≤ x ∧ x < 256) → pars (ts.map enc).flatten.length (ts.map enc).flatten acc = (0, acc ++ ts) := by
  intro ts
  induction ts with
  | nil => intro acc _ _; simp [pars]
  | cons t ts ih =>
    intro acc h hby
    have hby2 : ∀ x ∈ ((t :: ts).map enc).flatten, 0 ≤ x ∧ x < 256 := by
      intro x hx
      obtain ⟨l, h1, h2⟩ := List.mem_flatten.1 hx
      obtain ⟨u, h3, rfl⟩ := List.mem_map.1 h1
      exact enc_by (h u h3) (hby u h3) x h2
    have hne : ((t :: ts).map enc).flatten ≠ [] := by
      rw [List.map_cons, List.flatten_cons]
      intro e
      exact enc_ne t (List.append_eq_nil_iff.1 e).1
    rw [pars_step _ acc hby2 hne]
    rw [List.map_cons, List.flatten_cons, enc_one (h t (by simp)) (hby t (by simp))]
    rw [if_neg (by simp)]
    simp only [List.drop_left]
    rw [ih _ (fun u hu => h u (by simp [hu])) (fun u hu => hby u (by simp [hu]))]
    simp
theorem pars_count : ∀ (f : Nat) (b : List Int) (acc : List Tok), b.length ≤ f → (∀ x ∈ b, 0 ≤ x ∧ x < 256) → (pars b.length b acc).2.length ≤ acc.length + b.length := by
  intro f
  induction f with
  | zero =>
    intro b acc hf _
    have : b = [] := List.eq_nil_of_length_eq_zero (by omega)
    subst this
    simp [pars]
  | succ f ih =>
    intro b acc hf hby
    by_cases hne : b = []
    · subst hne
      simp [pars]
    · rw [pars_step b acc hby hne]
      by_cases h1 : (one b).1 ≠ 0
      · rw [if_pos h1]; simp
      · rw [if_neg h1]
        obtain ⟨k1, k2, k3⟩ := one_len (by simpa using h1) hby
        have := ih (b.drop (one b).2.2) (acc ++ [(one b).2.1]) (by rw [List.length_drop]; omega) (fun x hx => hby x (List.mem_of_mem_drop hx))
        have hdl : (b.drop (one b).2.2).length = b.length - (one b).2.2 := List.length_drop
        have hal : (acc ++ [(one b).2.1]).length = acc.length + 1 := by simp
        omega
theorem pr_bad (ts : List Tok) : ∀ out, (pr ts out).1 ≠ 0 → (pr ts out).2 = [] := by
  induction ts with
  | nil => intro out h; exact absurd rfl h
  | cons t ts ih =>
    intro out h
    rw [pr] at h ⊢
    split
    · rfl
    · rename_i hi
      rw [if_neg hi] at h
      exact ih _ h
set_option maxHeartbeats 4000000 in
theorem back_ok {st : St} (hw : WF st) {v u : AV} {b : List Int} {ts : List Tok} (hb : RdB st (fun _ => True) v b) (h : RdE tokK st (fun _ => True) u ts) (hbl : b.length ≤ 1048576) (hby : ∀ x ∈ b, 0 ≤ x ∧ x < 256) (hl : ts.length ≤ 1048576) (htl : ∀ t ∈ ts, t.1.length ≤ 1048576) (htb : ∀ t ∈ ts, ∀ x ∈ t.1, 0 ≤ x ∧ x < 256) :
    ACalls Try.prog 7 [v, u] st (fun r s => r = .pl (.bool true)) := by
  replace hb := hb.lt hw
  replace h := h.lt hw
  have hvs := hb.solid
  have hus := h.solid
  have hcount := pars_count b.length b [] (Nat.le_refl _) hby
  simp only [List.length_nil] at hcount
  refine acalls_of Try.func7 rfl (by kernel_rfl) (by simp [hvs, hus]) ?_
  repeat (first | (refine aw_seq ?_) | (refine aw_reg0 (by simp only [SZ, Nat.reduceAdd]; exact rfl) ?_) | (refine aw_reg (by decide +kernel) (by simp only [SZ, Nat.reduceAdd]; exact rfl) ?_) | (refine aw_regS (by decide +kernel) (by simp only [SZ, Nat.reduceAdd]; exact rfl) ?_) | (refine arl_nil ?_) | (refine aw_skip ?_) | (refine aw_block ?_) | (refine aw_exit ?_) | (refine aw_ret ?_) | (refine arl_cons rfl rfl (by simp +decide only [aop, abuiltin, aeval, aintBin, bin_int, aload_bump, SS, reduceIte, reduceCtorEq]; exact rfl) (by first | rfl | assumption) rfl ?_) | (refine arl_none rfl rfl (by simp +decide only [aop, abuiltin, aeval, aintBin, bin_int, aload_bump, SS, reduceIte, reduceCtorEq]; exact rfl) rfl rfl ?_) | (refine arl_off rfl rfl ?_) | (refine aw_condT (by simp +decide only [aop, abuiltin, aeval, aintBin, bin_int, aload_bump, SS, reduceIte, reduceCtorEq]; first | done | exact rfl) ?_) | (refine aw_condF (by simp +decide only [aop, abuiltin, aeval, aintBin, bin_int, aload_bump, SS, reduceIte, reduceCtorEq]; first | done | exact rfl) ?_))
  refine arl_call rfl rfl rfl rfl rfl rfl ((alive_ok (by repeat (first | assumption | (refine WF.bump ?_ _)))).wf (by repeat (first | assumption | (refine WF.bump ?_ _) | (refine WF.put ?_ (by simp only [n_bump, n_put, n_touch, n_kill] at *; omega) (by simp only [n_bump, n_put, n_touch, n_kill] at *; omega)))) |>.mono ?_)
  rintro r s1 ⟨hw1, hn1, hE1, rfl⟩
  refine ⟨by first | rfl | assumption, ?_⟩
  replace hE1 : Ext st s1 := Keeps.trans (by repeat (first | assumption | exact Keeps.refl _ _ | (refine Keeps.bumpR ?_ _) | (refine Keeps.put ?_ (by assumption) (by simp only [n_bump, n_put, n_touch, n_kill] at *; omega)))) hE1
  have hN1 := hE1.n
  repeat (first | (refine aw_seq ?_) | (refine aw_reg0 (by simp only [SZ, Nat.reduceAdd]; exact rfl) ?_) | (refine aw_reg (by decide +kernel) (by simp only [SZ, Nat.reduceAdd]; exact rfl) ?_) | (refine aw_regS (by decide +kernel) (by simp only [SZ, Nat.reduceAdd]; exact rfl) ?_) | (refine arl_nil ?_) | (refine aw_skip ?_) | (refine aw_block ?_) | (refine aw_exit ?_) | (refine aw_ret ?_) | (refine arl_cons rfl rfl (by simp +decide only [aop, abuiltin, aeval, aintBin, bin_int, aload_bump, SS, reduceIte, reduceCtorEq]; exact rfl) (by first | rfl | assumption) rfl ?_) | (refine arl_none rfl rfl (by simp +decide only [aop, abuiltin, aeval, aintBin, bin_int, aload_bump, SS, reduceIte, reduceCtorEq]; exact rfl) rfl rfl ?_) | (refine arl_off rfl rfl ?_))
  refine aw_condF (by first | (simp +decide only [aop, abuiltin, aeval, aintBin, bin_int, aload_bump, SS, reduceIte, reduceCtorEq]; done) | (simp +decide only [aop, abuiltin, aeval, aintBin, bin_int, aload_bump, SS, reduceIte, reduceCtorEq]; exact rfl)) ?_
  refine aw_skip ?_
  refine aw_seq ?_
  refine aw_reg0 (by simp only [SZ, Nat.reduceAdd]; exact rfl) ?_
  refine arl_cons rfl rfl (by simp +decide only [aop, abuiltin, aeval, aintBin, bin_int, aload_bump, SS, reduceIte, reduceCtorEq]; exact rfl) (by first | rfl | assumption) rfl ?_
  refine arl_call rfl rfl rfl rfl rfl rfl ((parse_ok (by repeat (first | assumption | (refine WF.bump ?_ _))) ((hb.up hE1).up (by repeat (first | exact Keeps.refl _ _ | (refine Keeps.bumpR ?_ _)))) (by omega) hby).wf (by repeat (first | assumption | (refine WF.bump ?_ _) | (refine WF.put ?_ (by simp only [n_bump, n_put, n_touch, n_kill] at *; omega) (by simp only [n_bump, n_put, n_touch, n_kill] at *; omega)))) |>.mono ?_)
  rintro r s2 ⟨hw2, hn2, hE2, x, L, rfl, hxs, hX, hL, hLd⟩
  refine ⟨by first | rfl | assumption, ?_⟩
  replace hE2 : Ext s1 s2 := Keeps.trans (by repeat (first | assumption | exact Keeps.refl _ _ | (refine Keeps.bumpR ?_ _) | (refine Keeps.put ?_ (by assumption) (by simp only [n_bump, n_put, n_touch, n_kill] at *; omega)))) hE2
  have hN2 := hE2.n
  have hS2 := hE1.trans hE2
  refine arl_cons rfl rfl (by simp +decide only [aop, abuiltin, aeval, aintBin, bin_int, aload_bump, SS, reduceIte, reduceCtorEq]; exact rfl) (by first | rfl | assumption) rfl ?_
  refine arl_cons rfl rfl (by simp +decide only [aop, abuiltin, aeval, aintBin, bin_int, aload_bump, SS, reduceIte, reduceCtorEq]; exact rfl) (by first | rfl | assumption) rfl ?_
  refine arl_cons rfl rfl (by simp +decide only [aop, abuiltin, aeval, aintBin, bin_int, aload_bump, SS, reduceIte, reduceCtorEq]; exact rfl) (by first | rfl | assumption) rfl ?_
  refine arl_cons rfl rfl (by simp +decide only [aop, abuiltin, aeval, aintBin, bin_int, aload_bump, SS, reduceIte, reduceCtorEq]; exact rfl) (by first | rfl | assumption) rfl ?_
  refine arl_cons rfl rfl (by simp +decide only [aop, abuiltin, aeval, aintBin, bin_int, aload_bump, SS, reduceIte, reduceCtorEq]; exact rfl) (by first | rfl | assumption) rfl ?_
  refine arl_nil ?_
  refine aw_cut (M := fun e fr s => e = .normal ∧ WF s ∧ Ext s2 s ∧ fr 1 = u) ?_ ?_
  · by_cases he : (pars b.length b []).1 = 0
    · obtain ⟨rs, hr1, hr2⟩ := pars_pr b.length b [] (Nat.le_refl _) hby he
      rw [List.nil_append] at hr1
      have hpr := hr2 []
      rw [List.nil_append] at hpr
      rw [hr1] at hX hcount
      have e1 := beqT he
      repeat (first | (refine aw_seq ?_) | (refine aw_reg0 (by simp only [SZ, Nat.reduceAdd]; exact rfl) ?_) | (refine aw_reg (by decide +kernel) (by simp only [SZ, Nat.reduceAdd]; exact rfl) ?_) | (refine aw_regS (by decide +kernel) (by simp only [SZ, Nat.reduceAdd]; exact rfl) ?_) | (refine arl_nil ?_) | (refine aw_skip ?_) | (refine aw_block ?_) | (refine aw_exit ?_) | (refine aw_ret ?_) | (refine arl_cons rfl rfl (by simp +decide only [aop, abuiltin, aeval, aintBin, bin_int, aload_bump, SS, reduceIte, reduceCtorEq, e1]; exact rfl) (by first | rfl | assumption) rfl ?_) | (refine arl_none rfl rfl (by simp +decide only [aop, abuiltin, aeval, aintBin, bin_int, aload_bump, SS, reduceIte, reduceCtorEq, e1]; exact rfl) rfl rfl ?_) | (refine arl_off rfl rfl ?_) | (refine aw_condT (by simp +decide only [aop, abuiltin, aeval, aintBin, bin_int, aload_bump, SS, reduceIte, reduceCtorEq, e1]; first | done | exact rfl) ?_) | (refine aw_condF (by simp +decide only [aop, abuiltin, aeval, aintBin, bin_int, aload_bump, SS, reduceIte, reduceCtorEq, e1]; first | done | exact rfl) ?_))
      refine arl_call rfl rfl rfl rfl rfl rfl ((print_ok (by repeat (first | assumption | (refine WF.bump ?_ _))) ((oTok_rd hX).rd.up (by repeat (first | exact Keeps.refl _ _ | (refine Keeps.bumpR ?_ _)))) (by omega)).wf (by repeat (first | assumption | (refine WF.bump ?_ _) | (refine WF.put ?_ (by simp only [n_bump, n_put, n_touch, n_kill] at *; omega) (by simp only [n_bump, n_put, n_touch, n_kill] at *; omega)))) |>.mono ?_)
      rintro r s3 ⟨hw3, hn3, hE3, y, rfl, hys, hY⟩
      refine ⟨by first | rfl | assumption, ?_⟩
      replace hE3 : Ext s2 s3 := Keeps.trans (by repeat (first | assumption | exact Keeps.refl _ _ | (refine Keeps.bumpR ?_ _) | (refine Keeps.put ?_ (by assumption) (by simp only [n_bump, n_put, n_touch, n_kill] at *; omega)))) hE3
      have hN3 := hE3.n
      rw [hpr] at hY ⊢
      replace hY : OwB s3 _ y b := hY
      repeat (first | (refine aw_seq ?_) | (refine aw_reg0 (by simp only [SZ, Nat.reduceAdd]; exact rfl) ?_) | (refine aw_reg (by decide +kernel) (by simp only [SZ, Nat.reduceAdd]; exact rfl) ?_) | (refine aw_regS (by decide +kernel) (by simp only [SZ, Nat.reduceAdd]; exact rfl) ?_) | (refine arl_nil ?_) | (refine aw_skip ?_) | (refine aw_block ?_) | (refine aw_exit ?_) | (refine aw_ret ?_) | (refine arl_cons rfl rfl (by simp +decide only [aop, abuiltin, aeval, aintBin, bin_int, aload_bump, SS, reduceIte, reduceCtorEq]; exact rfl) (by first | rfl | assumption) rfl ?_) | (refine arl_none rfl rfl (by simp +decide only [aop, abuiltin, aeval, aintBin, bin_int, aload_bump, SS, reduceIte, reduceCtorEq]; exact rfl) rfl rfl ?_) | (refine arl_off rfl rfl ?_) | (refine aw_condT (by simp +decide only [aop, abuiltin, aeval, aintBin, bin_int, aload_bump, SS, reduceIte, reduceCtorEq]; first | done | exact rfl) ?_) | (refine aw_condF (by simp +decide only [aop, abuiltin, aeval, aintBin, bin_int, aload_bump, SS, reduceIte, reduceCtorEq]; first | done | exact rfl) ?_))
      refine arl_call rfl rfl rfl rfl rfl rfl ((same_self (by repeat (first | assumption | (refine WF.bump ?_ _))) (hY.rd.up (by repeat (first | exact Keeps.refl _ _ | (refine Keeps.bumpR ?_ _)))) ((hb.up (hS2.trans hE3)).up (by repeat (first | exact Keeps.refl _ _ | (refine Keeps.bumpR ?_ _)))) (by omega)).wf (by repeat (first | assumption | (refine WF.bump ?_ _) | (refine WF.put ?_ (by simp only [n_bump, n_put, n_touch, n_kill] at *; omega) (by simp only [n_bump, n_put, n_touch, n_kill] at *; omega)))) |>.mono ?_)
      rintro r s4 ⟨hw4, hn4, hE4, rfl⟩
      refine ⟨by first | rfl | assumption, ?_⟩
      replace hE4 : Ext s3 s4 := Keeps.trans (by repeat (first | assumption | exact Keeps.refl _ _ | (refine Keeps.bumpR ?_ _) | (refine Keeps.put ?_ (by assumption) (by simp only [n_bump, n_put, n_touch, n_kill] at *; omega)))) hE4
      have hN4 := hE4.n
      repeat (first | (refine aw_seq ?_) | (refine aw_reg0 (by simp only [SZ, Nat.reduceAdd]; exact rfl) ?_) | (refine aw_reg (by decide +kernel) (by simp only [SZ, Nat.reduceAdd]; exact rfl) ?_) | (refine aw_regS (by decide +kernel) (by simp only [SZ, Nat.reduceAdd]; exact rfl) ?_) | (refine arl_nil ?_) | (refine aw_skip ?_) | (refine aw_block ?_) | (refine aw_exit ?_) | (refine aw_ret ?_) | (refine arl_cons rfl rfl (by simp +decide only [aop, abuiltin, aeval, aintBin, bin_int, aload_bump, SS, reduceIte, reduceCtorEq]; exact rfl) (by first | rfl | assumption) rfl ?_) | (refine arl_none rfl rfl (by simp +decide only [aop, abuiltin, aeval, aintBin, bin_int, aload_bump, SS, reduceIte, reduceCtorEq]; exact rfl) rfl rfl ?_) | (refine arl_off rfl rfl ?_) | (refine aw_condT (by simp +decide only [aop, abuiltin, aeval, aintBin, bin_int, aload_bump, SS, reduceIte, reduceCtorEq]; first | done | exact rfl) ?_) | (refine aw_condF (by simp +decide only [aop, abuiltin, aeval, aintBin, bin_int, aload_bump, SS, reduceIte, reduceCtorEq]; first | done | exact rfl) ?_))
      exact ⟨rfl, (by repeat (first | assumption | (refine WF.bump ?_ _))), (hE3.trans hE4).trans (by repeat (first | exact Keeps.refl _ _ | (refine Keeps.bumpR ?_ _))), rfl⟩
    · have e1 := beqF he
      repeat (first | (refine aw_seq ?_) | (refine aw_reg0 (by simp only [SZ, Nat.reduceAdd]; exact rfl) ?_) | (refine aw_reg (by decide +kernel) (by simp only [SZ, Nat.reduceAdd]; exact rfl) ?_) | (refine aw_regS (by decide +kernel) (by simp only [SZ, Nat.reduceAdd]; exact rfl) ?_) | (refine arl_nil ?_) | (refine aw_skip ?_) | (refine aw_block ?_) | (refine aw_exit ?_) | (refine aw_ret ?_) | (refine arl_cons rfl rfl (by simp +decide only [aop, abuiltin, aeval, aintBin, bin_int, aload_bump, SS, reduceIte, reduceCtorEq, e1]; exact rfl) (by first | rfl | assumption) rfl ?_) | (refine arl_none rfl rfl (by simp +decide only [aop, abuiltin, aeval, aintBin, bin_int, aload_bump, SS, reduceIte, reduceCtorEq, e1]; exact rfl) rfl rfl ?_) | (refine arl_off rfl rfl ?_) | (refine aw_condT (by simp +decide only [aop, abuiltin, aeval, aintBin, bin_int, aload_bump, SS, reduceIte, reduceCtorEq, e1]; first | done | exact rfl) ?_) | (refine aw_condF (by simp +decide only [aop, abuiltin, aeval, aintBin, bin_int, aload_bump, SS, reduceIte, reduceCtorEq, e1]; first | done | exact rfl) ?_))
      exact ⟨rfl, (by repeat (first | assumption | (refine WF.bump ?_ _))), (by repeat (first | exact Keeps.refl _ _ | (refine Keeps.bumpR ?_ _))), rfl⟩
  rintro e fr s5 ⟨rfl, hw5, hE5, f1⟩
  have hS5 := hS2.trans hE5
  repeat (first | (refine aw_seq ?_) | (refine aw_reg0 (by simp only [SZ, Nat.reduceAdd]; exact rfl) ?_) | (refine aw_reg (by decide +kernel) (by simp only [SZ, Nat.reduceAdd]; exact rfl) ?_) | (refine aw_regS (by decide +kernel) (by simp only [SZ, Nat.reduceAdd]; exact rfl) ?_) | (refine arl_nil ?_) | (refine aw_skip ?_) | (refine aw_block ?_) | (refine aw_exit ?_) | (refine aw_ret ?_) | (refine arl_cons rfl rfl (by simp +decide only [aop, abuiltin, aeval, aintBin, bin_int, aload_bump, SS, reduceIte, reduceCtorEq, f1]; exact rfl) (by first | rfl | assumption) rfl ?_) | (refine arl_none rfl rfl (by simp +decide only [aop, abuiltin, aeval, aintBin, bin_int, aload_bump, SS, reduceIte, reduceCtorEq, f1]; exact rfl) rfl rfl ?_) | (refine arl_off rfl rfl ?_) | (refine aw_condT (by simp +decide only [aop, abuiltin, aeval, aintBin, bin_int, aload_bump, SS, reduceIte, reduceCtorEq, f1]; first | done | exact rfl) ?_) | (refine aw_condF (by simp +decide only [aop, abuiltin, aeval, aintBin, bin_int, aload_bump, SS, reduceIte, reduceCtorEq, f1]; first | done | exact rfl) ?_))
  refine arl_call rfl rfl rfl rfl rfl rfl ((twin_ok (by repeat (first | assumption | (refine WF.bump ?_ _))) ((h.up hS5).up (by repeat (first | exact Keeps.refl _ _ | (refine Keeps.bumpR ?_ _)))) hl htl).wf (by repeat (first | assumption | (refine WF.bump ?_ _) | (refine WF.put ?_ (by simp only [n_bump, n_put, n_touch, n_kill] at *; omega) (by simp only [n_bump, n_put, n_touch, n_kill] at *; omega)))) |>.mono ?_)
  rintro mi s6 ⟨hw6, hn6, hE6, hms, hM⟩
  refine ⟨by first | rfl | assumption, ?_⟩
  replace hE6 : Ext s5 s6 := Keeps.trans (by repeat (first | assumption | exact Keeps.refl _ _ | (refine Keeps.bumpR ?_ _) | (refine Keeps.put ?_ (by assumption) (by simp only [n_bump, n_put, n_touch, n_kill] at *; omega)))) hE6
  have hN6 := hE6.n
  repeat (first | (refine aw_seq ?_) | (refine aw_reg0 (by simp only [SZ, Nat.reduceAdd]; exact rfl) ?_) | (refine aw_reg (by decide +kernel) (by simp only [SZ, Nat.reduceAdd]; exact rfl) ?_) | (refine aw_regS (by decide +kernel) (by simp only [SZ, Nat.reduceAdd]; exact rfl) ?_) | (refine arl_nil ?_) | (refine aw_skip ?_) | (refine aw_block ?_) | (refine aw_exit ?_) | (refine aw_ret ?_) | (refine arl_cons rfl rfl (by simp +decide only [aop, abuiltin, aeval, aintBin, bin_int, aload_bump, SS, reduceIte, reduceCtorEq, f1]; exact rfl) (by first | rfl | assumption) rfl ?_) | (refine arl_none rfl rfl (by simp +decide only [aop, abuiltin, aeval, aintBin, bin_int, aload_bump, SS, reduceIte, reduceCtorEq, f1]; exact rfl) rfl rfl ?_) | (refine arl_off rfl rfl ?_) | (refine aw_condT (by simp +decide only [aop, abuiltin, aeval, aintBin, bin_int, aload_bump, SS, reduceIte, reduceCtorEq, f1]; first | done | exact rfl) ?_) | (refine aw_condF (by simp +decide only [aop, abuiltin, aeval, aintBin, bin_int, aload_bump, SS, reduceIte, reduceCtorEq, f1]; first | done | exact rfl) ?_))
  refine arl_call rfl rfl rfl rfl rfl rfl ((print_ok (by repeat (first | assumption | (refine WF.bump ?_ _))) (hM.up (by repeat (first | exact Keeps.refl _ _ | (refine Keeps.bumpR ?_ _)))) hl).wf (by repeat (first | assumption | (refine WF.bump ?_ _) | (refine WF.put ?_ (by simp only [n_bump, n_put, n_touch, n_kill] at *; omega) (by simp only [n_bump, n_put, n_touch, n_kill] at *; omega)))) |>.mono ?_)
  rintro r s7 ⟨hw7, hn7, hE7, w, rfl, hws, hW⟩
  refine ⟨by first | rfl | assumption, ?_⟩
  replace hE7 : Ext s6 s7 := Keeps.trans (by repeat (first | assumption | exact Keeps.refl _ _ | (refine Keeps.bumpR ?_ _) | (refine Keeps.put ?_ (by assumption) (by simp only [n_bump, n_put, n_touch, n_kill] at *; omega)))) hE7
  have hN7 := hE7.n
  have hS7 := (hS5.trans hE6).trans hE7
  by_cases he : (pr ts []).1 = 0
  · obtain ⟨hr1, hr2⟩ := pr_all ts [] he
    rw [List.nil_append] at hr2
    have hp := pars_enc ts [] hr1 htb
    rw [List.nil_append] at hp
    have hrl := pr_len ts []
    simp only [List.length_nil] at hrl
    rw [hr2] at hW hrl
    have e1 := bne_f he
    have hby2 : ∀ x ∈ (ts.map enc).flatten, 0 ≤ x ∧ x < 256 := by
      intro x hx
      obtain ⟨l, h1, h2⟩ := List.mem_flatten.1 hx
      obtain ⟨t, h3, rfl⟩ := List.mem_map.1 h1
      exact enc_by (hr1 t h3) (htb t h3) x h2
    repeat (first | (refine aw_seq ?_) | (refine aw_reg0 (by simp only [SZ, Nat.reduceAdd]; exact rfl) ?_) | (refine aw_reg (by decide +kernel) (by simp only [SZ, Nat.reduceAdd]; exact rfl) ?_) | (refine aw_regS (by decide +kernel) (by simp only [SZ, Nat.reduceAdd]; exact rfl) ?_) | (refine arl_nil ?_) | (refine aw_skip ?_) | (refine aw_block ?_) | (refine aw_exit ?_) | (refine aw_ret ?_) | (refine arl_cons rfl rfl (by simp +decide only [aop, abuiltin, aeval, aintBin, bin_int, aload_bump, SS, reduceIte, reduceCtorEq, f1, e1]; exact rfl) (by first | rfl | assumption) rfl ?_) | (refine arl_none rfl rfl (by simp +decide only [aop, abuiltin, aeval, aintBin, bin_int, aload_bump, SS, reduceIte, reduceCtorEq, f1, e1]; exact rfl) rfl rfl ?_) | (refine arl_off rfl rfl ?_) | (refine aw_condT (by simp +decide only [aop, abuiltin, aeval, aintBin, bin_int, aload_bump, SS, reduceIte, reduceCtorEq, f1, e1]; first | done | exact rfl) ?_) | (refine aw_condF (by simp +decide only [aop, abuiltin, aeval, aintBin, bin_int, aload_bump, SS, reduceIte, reduceCtorEq, f1, e1]; first | done | exact rfl) ?_))
    refine arl_call rfl rfl rfl rfl rfl rfl ((parse_ok (by repeat (first | assumption | (refine WF.bump ?_ _))) (hW.rd.up (by repeat (first | exact Keeps.refl _ _ | (refine Keeps.bumpR ?_ _)))) (by omega) hby2).wf (by repeat (first | assumption | (refine WF.bump ?_ _) | (refine WF.put ?_ (by simp only [n_bump, n_put, n_touch, n_kill] at *; omega) (by simp only [n_bump, n_put, n_touch, n_kill] at *; omega)))) |>.mono ?_)
    rintro r s8 ⟨hw8, hn8, hE8, x2, L2, rfl, hx2s, hX2, hL2, hLd2⟩
    refine ⟨by first | rfl | assumption, ?_⟩
    replace hE8 : Ext s7 s8 := Keeps.trans (by repeat (first | assumption | exact Keeps.refl _ _ | (refine Keeps.bumpR ?_ _) | (refine Keeps.put ?_ (by assumption) (by simp only [n_bump, n_put, n_touch, n_kill] at *; omega)))) hE8
    have hN8 := hE8.n
    rw [hp] at hX2 ⊢
    replace hX2 : OwX oTokK s8 _ _ TK x2 ts := hX2
    repeat (first | (refine aw_seq ?_) | (refine aw_reg0 (by simp only [SZ, Nat.reduceAdd]; exact rfl) ?_) | (refine aw_reg (by decide +kernel) (by simp only [SZ, Nat.reduceAdd]; exact rfl) ?_) | (refine aw_regS (by decide +kernel) (by simp only [SZ, Nat.reduceAdd]; exact rfl) ?_) | (refine arl_nil ?_) | (refine aw_skip ?_) | (refine aw_block ?_) | (refine aw_exit ?_) | (refine aw_ret ?_) | (refine arl_cons rfl rfl (by simp +decide only [aop, abuiltin, aeval, aintBin, bin_int, aload_bump, SS, reduceIte, reduceCtorEq, f1]; exact rfl) (by first | rfl | assumption) rfl ?_) | (refine arl_none rfl rfl (by simp +decide only [aop, abuiltin, aeval, aintBin, bin_int, aload_bump, SS, reduceIte, reduceCtorEq, f1]; exact rfl) rfl rfl ?_) | (refine arl_off rfl rfl ?_) | (refine aw_condT (by simp +decide only [aop, abuiltin, aeval, aintBin, bin_int, aload_bump, SS, reduceIte, reduceCtorEq, f1]; first | done | exact rfl) ?_) | (refine aw_condF (by simp +decide only [aop, abuiltin, aeval, aintBin, bin_int, aload_bump, SS, reduceIte, reduceCtorEq, f1]; first | done | exact rfl) ?_))
    refine arl_call rfl rfl rfl rfl rfl rfl ((alike_yes (by repeat (first | assumption | (refine WF.bump ?_ _))) ((oTok_rd hX2).rd.up (by repeat (first | exact Keeps.refl _ _ | (refine Keeps.bumpR ?_ _)))) ((h.up (hS7.trans hE8)).up (by repeat (first | exact Keeps.refl _ _ | (refine Keeps.bumpR ?_ _)))) (by omega)).wf (by repeat (first | assumption | (refine WF.bump ?_ _) | (refine WF.put ?_ (by simp only [n_bump, n_put, n_touch, n_kill] at *; omega) (by simp only [n_bump, n_put, n_touch, n_kill] at *; omega)))) |>.mono ?_)
    rintro r s9 ⟨hw9, hn9, hE9, rfl⟩
    refine ⟨by first | rfl | assumption, ?_⟩
    replace hE9 : Ext s8 s9 := Keeps.trans (by repeat (first | assumption | exact Keeps.refl _ _ | (refine Keeps.bumpR ?_ _) | (refine Keeps.put ?_ (by assumption) (by simp only [n_bump, n_put, n_touch, n_kill] at *; omega)))) hE9
    have hN9 := hE9.n
    repeat (first | (refine aw_seq ?_) | (refine aw_reg0 (by simp only [SZ, Nat.reduceAdd]; exact rfl) ?_) | (refine aw_reg (by decide +kernel) (by simp only [SZ, Nat.reduceAdd]; exact rfl) ?_) | (refine aw_regS (by decide +kernel) (by simp only [SZ, Nat.reduceAdd]; exact rfl) ?_) | (refine arl_nil ?_) | (refine aw_skip ?_) | (refine aw_block ?_) | (refine aw_exit ?_) | (refine aw_ret ?_) | (refine arl_cons rfl rfl (by simp +decide only [aop, abuiltin, aeval, aintBin, bin_int, aload_bump, SS, reduceIte, reduceCtorEq]; exact rfl) (by first | rfl | assumption) rfl ?_) | (refine arl_none rfl rfl (by simp +decide only [aop, abuiltin, aeval, aintBin, bin_int, aload_bump, SS, reduceIte, reduceCtorEq]; exact rfl) rfl rfl ?_) | (refine arl_off rfl rfl ?_) | (refine aw_condT (by simp +decide only [aop, abuiltin, aeval, aintBin, bin_int, aload_bump, SS, reduceIte, reduceCtorEq]; first | done | exact rfl) ?_) | (refine aw_condF (by simp +decide only [aop, abuiltin, aeval, aintBin, bin_int, aload_bump, SS, reduceIte, reduceCtorEq]; first | done | exact rfl) ?_))
    exact ⟨.inr rfl, _, rfl, rfl⟩
  · have hbad := pr_bad ts [] he
    rw [hbad] at hW
    have hwl := hW.rd.len
    have e1 := bne_t he
    repeat (first | (refine aw_seq ?_) | (refine aw_reg0 (by simp only [SZ, Nat.reduceAdd]; exact rfl) ?_) | (refine aw_reg (by decide +kernel) (by simp only [SZ, Nat.reduceAdd]; exact rfl) ?_) | (refine aw_regS (by decide +kernel) (by simp only [SZ, Nat.reduceAdd]; exact rfl) ?_) | (refine arl_nil ?_) | (refine aw_skip ?_) | (refine aw_block ?_) | (refine aw_exit ?_) | (refine aw_ret ?_) | (refine arl_cons rfl rfl (by simp +decide only [aop, abuiltin, aeval, aintBin, bin_int, aload_bump, SS, reduceIte, reduceCtorEq, f1, e1, hwl]; exact rfl) (by first | rfl | assumption) rfl ?_) | (refine arl_none rfl rfl (by simp +decide only [aop, abuiltin, aeval, aintBin, bin_int, aload_bump, SS, reduceIte, reduceCtorEq, f1, e1, hwl]; exact rfl) rfl rfl ?_) | (refine arl_off rfl rfl ?_) | (refine aw_condT (by simp +decide only [aop, abuiltin, aeval, aintBin, bin_int, aload_bump, SS, reduceIte, reduceCtorEq, f1, e1, hwl]; first | done | exact rfl) ?_) | (refine aw_condF (by simp +decide only [aop, abuiltin, aeval, aintBin, bin_int, aload_bump, SS, reduceIte, reduceCtorEq, f1, e1, hwl]; first | done | exact rfl) ?_))
    exact ⟨.inr rfl, _, rfl, rfl⟩
theorem TokenBack_small {st : St} (hw : WF st) {v : AV} {b : List Int} (h0 : RdL st (fun _ => True) 1 (fun cs n => cs = [.pl (.int .u8 n)]) v b) (g0 : ∀ x ∈ b, (Lit.int .u8 x).wf = true) {u : AV} {ts : List (List Int × Int × Int)}
    (h : RdL st (fun _ => True) 3 (fun c (x : List Int × Int × Int) => (∃ v, c.take 1 = [v] ∧ RdL st (fun _ => True) 1 (fun cs n => cs = [.pl (.int .u8 n)]) v x.1) ∧ (c.drop 1).take 1 = [i64 x.2.1] ∧ (c.drop 1).drop 1 = [i64 x.2.2]) u ts)
    (g : ∀ x ∈ ts, (∀ y ∈ x.1, (Lit.int .u8 y).wf = true) ∧ (Lit.int .i64 x.2.1).wf = true ∧ (Lit.int .i64 x.2.2).wf = true) (hb : (b.map fun _ => 1).sum + 1 + ((ts.map fun x : List Int × Int × Int => (x.1.map fun _ => 1).sum + 1 + (1 + 1) + 1).sum + 1) ≤ 1048576) :
    ACalls Try.prog 7 [v, u] st (fun r s => r = .pl (.bool true)) := by
  have h1 := toks_small ts
  rw [sum_1] at hb
  exact back_ok hw (RdL.bytes h0) (toks_of h) (by omega) (fun x hx => wfu8 (g0 x hx)) (by omega) (fun t ht => by have := h1.2 t ht; omega) (fun t ht x hx => wfu8 ((g t ht).1 x hx))
end Go.Proofs.Ytjgdagiffmpkhaa.Ra
