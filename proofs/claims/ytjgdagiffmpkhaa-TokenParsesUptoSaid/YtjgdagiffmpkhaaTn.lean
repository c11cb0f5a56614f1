/- leatlaw05.TokenParses. -/
import Derived.Test.YtjgdagiffmpkhaaTm
namespace Go.Proofs.Ytjgdagiffmpkhaa.Ra
open Go Go.RowKit
set_option linter.unusedVariables false
set_option linter.unusedSimpArgs false
set_option maxRecDepth 10000
/-- A token of which the literal alone is told. -/
def oLitK : EK (List Int) where
  s := 3
  R := fun st K cs l => ∃ c, ∃ d n : Int, cs = [c, i64 d, i64 n] ∧ OwB st K c l
  keep := fun hk hd c x ⟨v, d, n, h1, h2⟩ => ⟨v, d, n, h1, h2.keep hk hd⟩
  mono := fun hk c x ⟨v, d, n, h1, h2⟩ => ⟨v, d, n, h1, h2.mono hk⟩
  lt := fun hw c x ⟨v, d, n, h1, h2⟩ => ⟨v, d, n, h1, h2.lt hw⟩
  one := fun c x ⟨v, d, n, h1, h2⟩ => by subst h1; simp [h2.rd.cell.2]; exact ⟨rfl, rfl⟩
  len := fun c x ⟨v, d, n, h1, h2⟩ => by subst h1; rfl
theorem oLit_of {st : St} {K : Nat → Prop} {L : Nat → Nat → Prop} {e : TypeId} {v : AV} {ts : List Tok} (h : OwX oTokK st K L e v ts) : OwX oLitK st K L e v (ts.map (·.1)) := by
  rcases h with ⟨h1, h2⟩ | ⟨i, g, cs, h1, h2, h3, h4, h5⟩
  · exact .inl ⟨by rw [h1]; rfl, h2⟩
  · refine .inr ⟨i, g, cs, by rw [List.length_map]; exact h1, h2, h3, by rw [List.length_map]; exact h4, fun j x hx => ?_⟩
    rw [List.getElem?_map] at hx
    obtain ⟨t, ht, rfl⟩ := Option.map_eq_some_iff.1 hx
    obtain ⟨c, k1, k2⟩ := h5 j t ht
    exact ⟨c, _, _, k1, k2⟩
theorem oLit_at {st : St} {K : Nat → Prop} {L : Nat → Nat → Prop} {v : AV} {ls : List (List Int)} (h : OwX oLitK st K L TK v ls) (j : Nat) (hj : j < ls.length) :
    ∃ i g cs c, ∃ d n : Int, v = .sl i 0 ls.length 3 ∧ st.get i = some ⟨cs, TK, true, g⟩ ∧ K g ∧ cs.length = ls.length * 3 ∧ aindexAddr Try.prog 22 v (i64 j) = some (.ptr i (j * 3)) ∧ aload Try.prog st 25 (.ptr i (j * 3)) = some c ∧ aload Try.prog st 3 (.ptr i (j * 3 + 1)) = some (i64 d) ∧ c.solid = true ∧ (cs.drop (j * 3)).take 3 = [c, i64 d, i64 n] ∧ OwB st (fun h => L j h ∧ h ≠ g) c ls[j] := by
  obtain ⟨i, g, cs, h1, h2, h3, h4, c, d, n, h5, h6⟩ := h.get j hj
  have hs : oLitK.s = 3 := rfl
  rw [hs] at h1 h4 h5
  have q : ∀ p, p < 3 → cs[j * 3 + p]? = ([c, i64 d, i64 n] : List AV)[p]? := fun p hp => by
    rw [← h5, List.getElem?_take, if_pos hp, List.getElem?_drop]
  refine ⟨i, g, cs, c, d, n, h1, h2, h3, h4, ?_, ldB h2 (q 0 (by omega)), ldI h2 (q 1 (by omega)), h6.solid, h5, h6⟩
  rw [h1, idx_sl (P := Try.prog) (e := TK) (s := 3) (by kernel_rfl) (by kernel_rfl) _ _ _ _ _ _ (by omega) (by omega)]
  simp only [Int.toNat_natCast, Nat.zero_add]
/-- The distance of one is written over. -/
theorem oLit_set {st s : St} {K : Nat → Prop} {L : Nat → Nat → Prop} {v : AV} {ls : List (List Int)} (h : OwX oLitK st K L TK v ls) {i g j : Nat} {cs : List AV} {c : AV} {d n : Int} (h1 : v = .sl i 0 ls.length 3) (h2 : st.get i = some ⟨cs, TK, true, g⟩) (hc : (cs.drop (j * 3)).take 3 = [c, i64 d, i64 n]) (y : Int)
    (hk : Keeps (fun x => x = g) st s) (hs : s.get i = some ⟨cs.set (j * 3 + 1) (i64 y), TK, true, g⟩) : OwX oLitK s K L TK v ls := by
  rcases h with h | ⟨i', g', cs', e1, e2, e3, e4, e5⟩
  · exact .inl h
  · rw [e1] at h1
    cases h1
    rw [e2] at h2
    cases h2
    refine .inr ⟨i, g, cs.set (j * 3 + 1) (i64 y), e1, hs, e3, by rw [List.length_set]; exact e4, fun q x hx => ?_⟩
    obtain ⟨c', d', n', k1, k2⟩ := e5 q x hx
    have hsz : oLitK.s = 3 := rfl
    rw [hsz] at k1 ⊢
    have k2' := k2.keep hk (fun g' hg hg' => hg.2 hg')
    by_cases hq : q = j
    · subst hq
      rw [hc] at k1
      cases k1
      refine ⟨c, y, n, ?_, k2'⟩
      have hl : ((cs.drop (q * 3)).take 3).length = 3 := by rw [hc]; rfl
      rw [List.length_take, List.length_drop] at hl
      apply List.ext_getElem?
      intro p
      rw [List.getElem?_take]
      by_cases hp : p < 3
      · rw [if_pos hp, List.getElem?_drop, List.getElem?_set]
        have hcp : cs[q * 3 + p]? = ([c, i64 d, i64 n] : List AV)[p]? := by rw [← hc, List.getElem?_take, if_pos hp, List.getElem?_drop]
        match p, hp with
        | 0, _ => rw [if_neg (by omega), hcp]; rfl
        | 1, _ => rw [if_pos rfl, if_pos (by omega)]; rfl
        | 2, _ => rw [if_neg (by omega), hcp]; rfl
      · rw [if_neg hp, List.getElem?_eq_none (by simp; omega)]
    · refine ⟨c', d', n', ?_, k2'⟩
      rw [← k1]
      apply List.ext_getElem?
      intro p
      rw [List.getElem?_take, List.getElem?_take]
      by_cases hp : p < 3
      · rw [if_pos hp, if_pos hp, List.getElem?_drop, List.getElem?_drop, List.getElem?_set, if_neg (by omega)]
      · rw [if_neg hp, if_neg hp]
theorem pars_bad : ∀ (f : Nat) (b : List Int) (acc : List Tok), (pars f b acc).1 ≠ 0 → (pars f b acc).2 = [] := by
  intro f
  induction f with
  | zero => intro b acc h; exact absurd rfl h
  | succ f ih =>
    intro b acc h
    simp only [pars] at h ⊢
    by_cases h1 : b = []
    · rw [if_pos h1] at h; exact absurd rfl h
    · rw [if_neg h1] at h ⊢
      by_cases h2 : (one b).1 ≠ 0
      · rw [if_pos h2]
      · rw [if_neg h2] at h ⊢
        exact ih _ _ h
theorem pars_lits (b : List Int) (hby : ∀ x ∈ b, 0 ≤ x ∧ x < 256) : ∀ t ∈ (pars b.length b []).2, t.1.length ≤ 128 := by
  by_cases he : (pars b.length b []).1 = 0
  · obtain ⟨ts, h1, h2, h3⟩ := (pars_expd 0 b.length b [] [] (Nat.le_refl _) hby).2 he
    rw [h1, List.nil_append]
    exact h3
  · rw [pars_bad _ _ _ he]
    intro t ht
    cases ht
theorem OwX.split {α : Type} {k : EK α} {st : St} {K : Nat → Prop} {L : Nat → Nat → Prop} {e : TypeId} {v : AV} {xs : List α} (h : OwX k st K L e v xs) : ∃ g0, OwX k st (fun g => K g ∧ g = g0) (fun j g => L j g ∧ g ≠ g0) e v xs := by
  rcases h with h | ⟨i, g, cs, h1, h2, h3, h4, h5⟩
  · exact ⟨0, .inl h⟩
  · exact ⟨g, .inr ⟨i, g, cs, h1, h2, ⟨h3, rfl⟩, h4, fun j x hx => k.mono (fun h hh => ⟨⟨hh.1, hh.2⟩, hh.2⟩) _ _ (h5 j x hx)⟩⟩
set_option maxHeartbeats 8000000 in
theorem parses_ok {st : St} (hw : WF st) {v : AV} {b : List Int} (hb : RdB st (fun _ => True) v b) (hbl : b.length ≤ 1048576) (hby : ∀ x ∈ b, 0 ≤ x ∧ x < 256) :
    ACalls Try.prog 6 [v] st (fun r s => r = .pl (.bool true)) := by
  replace hb := hb.lt hw
  have hvs := hb.solid
  have hln := hb.len
  have hcount := pars_count b.length b [] (Nat.le_refl _) hby
  have hlits := pars_lits b hby
  simp only [List.length_nil] at hcount
  refine acalls_of Try.func6 rfl (by kernel_rfl) (by simp [hvs]) ?_
  repeat (first | (refine aw_seq ?_) | (refine aw_reg0 (by simp only [SZ, Nat.reduceAdd]; exact rfl) ?_) | (refine aw_reg (by decide +kernel) (by simp only [SZ, Nat.reduceAdd]; exact rfl) ?_) | (refine aw_regS (by decide +kernel) (by simp only [SZ, Nat.reduceAdd]; exact rfl) ?_) | (refine arl_nil ?_) | (refine aw_skip ?_) | (refine aw_block ?_) | (refine aw_exit ?_) | (refine aw_ret ?_) | (refine arl_cons rfl rfl (by simp +decide only [aop, abuiltin, aeval, aintBin, bin_int, aload_bump, SS, reduceIte, reduceCtorEq]; exact rfl) (by first | rfl | assumption) rfl ?_) | (refine arl_none rfl rfl (by simp +decide only [aop, abuiltin, aeval, aintBin, bin_int, aload_bump, SS, reduceIte, reduceCtorEq]; exact rfl) rfl rfl ?_) | (refine arl_off rfl rfl ?_) | (refine aw_condT (by simp +decide only [aop, abuiltin, aeval, aintBin, bin_int, aload_bump, SS, reduceIte, reduceCtorEq]; first | done | exact rfl) ?_) | (refine aw_condF (by simp +decide only [aop, abuiltin, aeval, aintBin, bin_int, aload_bump, SS, reduceIte, reduceCtorEq]; first | done | exact rfl) ?_))
  refine arl_call rfl rfl rfl rfl rfl rfl ((alive_ok (by repeat (first | assumption | (refine WF.bump ?_ _)))).wf (by repeat (first | assumption | (refine WF.bump ?_ _) | (refine WF.put ?_ (by simp only [n_bump, n_put, n_touch, n_kill] at *; omega) (by simp only [n_bump, n_put, n_touch, n_kill] at *; omega)))) |>.mono ?_)
  rintro r s1 ⟨hw1, hn1, hE1, rfl⟩
  refine ⟨by first | rfl | assumption, ?_⟩
  replace hE1 : Ext st s1 := Keeps.trans (by repeat (first | assumption | exact Keeps.refl _ _ | (refine Keeps.bumpR ?_ _) | (refine Keeps.put ?_ (by assumption) (by simp only [n_bump, n_put, n_touch, n_kill] at *; omega)))) hE1
  have hN1 := hE1.n
  repeat (first | (refine aw_seq ?_) | (refine aw_reg0 (by simp only [SZ, Nat.reduceAdd]; exact rfl) ?_) | (refine aw_reg (by decide +kernel) (by simp only [SZ, Nat.reduceAdd]; exact rfl) ?_) | (refine aw_regS (by decide +kernel) (by simp only [SZ, Nat.reduceAdd]; exact rfl) ?_) | (refine arl_nil ?_) | (refine aw_skip ?_) | (refine aw_block ?_) | (refine aw_exit ?_) | (refine aw_ret ?_) | (refine arl_cons rfl rfl (by simp +decide only [aop, abuiltin, aeval, aintBin, bin_int, aload_bump, SS, reduceIte, reduceCtorEq]; exact rfl) (by first | rfl | assumption) rfl ?_) | (refine arl_none rfl rfl (by simp +decide only [aop, abuiltin, aeval, aintBin, bin_int, aload_bump, SS, reduceIte, reduceCtorEq]; exact rfl) rfl rfl ?_) | (refine arl_off rfl rfl ?_) | (refine aw_condT (by simp +decide only [aop, abuiltin, aeval, aintBin, bin_int, aload_bump, SS, reduceIte, reduceCtorEq]; first | done | exact rfl) ?_) | (refine aw_condF (by simp +decide only [aop, abuiltin, aeval, aintBin, bin_int, aload_bump, SS, reduceIte, reduceCtorEq]; first | done | exact rfl) ?_))
  refine arl_call rfl rfl rfl rfl rfl rfl ((wide_ok (by repeat (first | assumption | (refine WF.bump ?_ _))) ((hb.up hE1).up (by repeat (first | exact Keeps.refl _ _ | (refine Keeps.bumpR ?_ _)))) (by omega)).wf (by repeat (first | assumption | (refine WF.bump ?_ _) | (refine WF.put ?_ (by simp only [n_bump, n_put, n_touch, n_kill] at *; omega) (by simp only [n_bump, n_put, n_touch, n_kill] at *; omega)))) |>.mono ?_)
  rintro wh s2 ⟨hw2, hn2, hE2, hws, hW⟩
  refine ⟨by first | rfl | assumption, ?_⟩
  replace hE2 : Ext s1 s2 := Keeps.trans (by repeat (first | assumption | exact Keeps.refl _ _ | (refine Keeps.bumpR ?_ _) | (refine Keeps.put ?_ (by assumption) (by simp only [n_bump, n_put, n_touch, n_kill] at *; omega)))) hE2
  have hN2 := hE2.n
  replace hW := hW.lt hw2
  have hS2 := hE1.trans hE2
  repeat (first | (refine aw_seq ?_) | (refine aw_reg0 (by simp only [SZ, Nat.reduceAdd]; exact rfl) ?_) | (refine aw_reg (by decide +kernel) (by simp only [SZ, Nat.reduceAdd]; exact rfl) ?_) | (refine aw_regS (by decide +kernel) (by simp only [SZ, Nat.reduceAdd]; exact rfl) ?_) | (refine arl_nil ?_) | (refine aw_skip ?_) | (refine aw_block ?_) | (refine aw_exit ?_) | (refine aw_ret ?_) | (refine arl_cons rfl rfl (by simp +decide only [aop, abuiltin, aeval, aintBin, bin_int, aload_bump, SS, reduceIte, reduceCtorEq]; exact rfl) (by first | rfl | assumption) rfl ?_) | (refine arl_none rfl rfl (by simp +decide only [aop, abuiltin, aeval, aintBin, bin_int, aload_bump, SS, reduceIte, reduceCtorEq]; exact rfl) rfl rfl ?_) | (refine arl_off rfl rfl ?_) | (refine aw_condT (by simp +decide only [aop, abuiltin, aeval, aintBin, bin_int, aload_bump, SS, reduceIte, reduceCtorEq]; first | done | exact rfl) ?_) | (refine aw_condF (by simp +decide only [aop, abuiltin, aeval, aintBin, bin_int, aload_bump, SS, reduceIte, reduceCtorEq]; first | done | exact rfl) ?_))
  refine arl_call rfl rfl rfl rfl rfl rfl ((parseR_ok (by repeat (first | assumption | (refine WF.bump ?_ _))) ((hb.up hS2).up (by repeat (first | exact Keeps.refl _ _ | (refine Keeps.bumpR ?_ _)))) (by omega) hby).wf (by repeat (first | assumption | (refine WF.bump ?_ _) | (refine WF.put ?_ (by simp only [n_bump, n_put, n_touch, n_kill] at *; omega) (by simp only [n_bump, n_put, n_touch, n_kill] at *; omega)))) |>.mono ?_)
  rintro r s3 ⟨hw3, hn3, hE3, wa, rfl, hwas, hWa⟩
  refine ⟨by first | rfl | assumption, ?_⟩
  replace hE3 : Ext s2 s3 := Keeps.trans (by repeat (first | assumption | exact Keeps.refl _ _ | (refine Keeps.bumpR ?_ _) | (refine Keeps.put ?_ (by assumption) (by simp only [n_bump, n_put, n_touch, n_kill] at *; omega)))) hE3
  have hN3 := hE3.n
  replace hWa := hWa.lt hw3
  have hS3 := hS2.trans hE3
  have hW3 := hW.up hE3
  obtain ⟨u, hcut, hus, hU⟩ := hW3.rd.cuts none (some (i64 b.length)) 0 b.length (.inr ⟨rfl, rfl⟩) (.inl rfl) (by omega) (by simp)
  have hub : ((b ++ marks 96).drop 0).take (b.length - 0) = b := by simp
  rw [hub] at hU
  repeat (first | (refine aw_seq ?_) | (refine aw_reg0 (by simp only [SZ, Nat.reduceAdd]; exact rfl) ?_) | (refine aw_reg (by decide +kernel) (by simp only [SZ, Nat.reduceAdd]; exact rfl) ?_) | (refine aw_regS (by decide +kernel) (by simp only [SZ, Nat.reduceAdd]; exact rfl) ?_) | (refine arl_nil ?_) | (refine aw_skip ?_) | (refine aw_block ?_) | (refine aw_exit ?_) | (refine aw_ret ?_) | (refine arl_cons rfl rfl (by simp +decide only [aop, abuiltin, aeval, aintBin, bin_int, aload_bump, SS, reduceIte, reduceCtorEq, hln, hcut]; exact rfl) (by first | rfl | assumption) rfl ?_) | (refine arl_none rfl rfl (by simp +decide only [aop, abuiltin, aeval, aintBin, bin_int, aload_bump, SS, reduceIte, reduceCtorEq, hln, hcut]; exact rfl) rfl rfl ?_) | (refine arl_off rfl rfl ?_) | (refine aw_condT (by simp +decide only [aop, abuiltin, aeval, aintBin, bin_int, aload_bump, SS, reduceIte, reduceCtorEq, hln, hcut]; first | done | exact rfl) ?_) | (refine aw_condF (by simp +decide only [aop, abuiltin, aeval, aintBin, bin_int, aload_bump, SS, reduceIte, reduceCtorEq, hln, hcut]; first | done | exact rfl) ?_))
  refine arl_call rfl rfl rfl rfl rfl rfl ((parse_ok (by repeat (first | assumption | (refine WF.bump ?_ _))) (hU.up (by repeat (first | exact Keeps.refl _ _ | (refine Keeps.bumpR ?_ _)))) (by omega) hby).wf (by repeat (first | assumption | (refine WF.bump ?_ _) | (refine WF.put ?_ (by simp only [n_bump, n_put, n_touch, n_kill] at *; omega) (by simp only [n_bump, n_put, n_touch, n_kill] at *; omega)))) |>.mono ?_)
  rintro r s4 ⟨hw4, hn4, hE4, x, L, rfl, hxs, hX, hL, hLd⟩
  refine ⟨by first | rfl | assumption, ?_⟩
  replace hE4 : Ext s3 s4 := Keeps.trans (by repeat (first | assumption | exact Keeps.refl _ _ | (refine Keeps.bumpR ?_ _) | (refine Keeps.put ?_ (by assumption) (by simp only [n_bump, n_put, n_touch, n_kill] at *; omega)))) hE4
  have hN4 := hE4.n
  have hS4 := hS3.trans hE4
  repeat (first | (refine aw_seq ?_) | (refine aw_reg0 (by simp only [SZ, Nat.reduceAdd]; exact rfl) ?_) | (refine aw_reg (by decide +kernel) (by simp only [SZ, Nat.reduceAdd]; exact rfl) ?_) | (refine aw_regS (by decide +kernel) (by simp only [SZ, Nat.reduceAdd]; exact rfl) ?_) | (refine arl_nil ?_) | (refine aw_skip ?_) | (refine aw_block ?_) | (refine aw_exit ?_) | (refine aw_ret ?_) | (refine arl_cons rfl rfl (by simp +decide only [aop, abuiltin, aeval, aintBin, bin_int, aload_bump, SS, reduceIte, reduceCtorEq, hln, hcut]; exact rfl) (by first | rfl | assumption) rfl ?_) | (refine arl_none rfl rfl (by simp +decide only [aop, abuiltin, aeval, aintBin, bin_int, aload_bump, SS, reduceIte, reduceCtorEq, hln, hcut]; exact rfl) rfl rfl ?_) | (refine arl_off rfl rfl ?_) | (refine aw_condT (by simp +decide only [aop, abuiltin, aeval, aintBin, bin_int, aload_bump, SS, reduceIte, reduceCtorEq, hln, hcut]; first | done | exact rfl) ?_) | (refine aw_condF (by simp +decide only [aop, abuiltin, aeval, aintBin, bin_int, aload_bump, SS, reduceIte, reduceCtorEq, hln, hcut]; first | done | exact rfl) ?_))
  refine arl_call rfl rfl rfl rfl rfl rfl ((parse_ok (by repeat (first | assumption | (refine WF.bump ?_ _))) ((hU.up hE4).up (by repeat (first | exact Keeps.refl _ _ | (refine Keeps.bumpR ?_ _)))) (by omega) hby).wf (by repeat (first | assumption | (refine WF.bump ?_ _) | (refine WF.put ?_ (by simp only [n_bump, n_put, n_touch, n_kill] at *; omega) (by simp only [n_bump, n_put, n_touch, n_kill] at *; omega)))) |>.mono ?_)
  rintro r s5 ⟨hw5, hn5, hE5, y, L2, rfl, hys, hY, hL2, hLd2⟩
  refine ⟨by first | rfl | assumption, ?_⟩
  replace hE5 : Ext s4 s5 := Keeps.trans (by repeat (first | assumption | exact Keeps.refl _ _ | (refine Keeps.bumpR ?_ _) | (refine Keeps.put ?_ (by assumption) (by simp only [n_bump, n_put, n_touch, n_kill] at *; omega)))) hE5
  have hN5 := hE5.n
  have hS5 := hS4.trans hE5
  have hN3 := hE3.n
  have hN4 := hE4.n
  have hN5 := hE5.n
  obtain ⟨e, ts, hps⟩ : ∃ e ts, pars b.length b [] = (e, ts) := ⟨_, _, rfl⟩
  rw [hps] at hX hY hWa hcount hlits ⊢
  simp only at hX hY hWa hcount hlits ⊢
  have hbq : (e != e) = false := by simp
  repeat (first | (refine aw_seq ?_) | (refine aw_reg0 (by simp only [SZ, Nat.reduceAdd]; exact rfl) ?_) | (refine aw_reg (by decide +kernel) (by simp only [SZ, Nat.reduceAdd]; exact rfl) ?_) | (refine aw_regS (by decide +kernel) (by simp only [SZ, Nat.reduceAdd]; exact rfl) ?_) | (refine arl_nil ?_) | (refine aw_skip ?_) | (refine aw_block ?_) | (refine aw_exit ?_) | (refine aw_ret ?_) | (refine arl_cons rfl rfl (by simp +decide only [aop, abuiltin, aeval, aintBin, bin_int, aload_bump, SS, reduceIte, reduceCtorEq, hbq]; exact rfl) (by first | rfl | assumption) rfl ?_) | (refine arl_none rfl rfl (by simp +decide only [aop, abuiltin, aeval, aintBin, bin_int, aload_bump, SS, reduceIte, reduceCtorEq, hbq]; exact rfl) rfl rfl ?_) | (refine arl_off rfl rfl ?_) | (refine aw_condT (by simp +decide only [aop, abuiltin, aeval, aintBin, bin_int, aload_bump, SS, reduceIte, reduceCtorEq, hbq]; first | done | exact rfl) ?_) | (refine aw_condF (by simp +decide only [aop, abuiltin, aeval, aintBin, bin_int, aload_bump, SS, reduceIte, reduceCtorEq, hbq]; first | done | exact rfl) ?_))
  refine arl_call rfl rfl rfl rfl rfl rfl ((alike_yes (by repeat (first | assumption | (refine WF.bump ?_ _))) (((oTok_rd hX).rd.up hE5).up (by repeat (first | exact Keeps.refl _ _ | (refine Keeps.bumpR ?_ _)))) ((hWa.up (hE4.trans hE5)).up (by repeat (first | exact Keeps.refl _ _ | (refine Keeps.bumpR ?_ _)))) (by omega)).wf (by repeat (first | assumption | (refine WF.bump ?_ _) | (refine WF.put ?_ (by simp only [n_bump, n_put, n_touch, n_kill] at *; omega) (by simp only [n_bump, n_put, n_touch, n_kill] at *; omega)))) |>.mono ?_)
  rintro r s6 ⟨hw6, hn6, hE6, rfl⟩
  refine ⟨by first | rfl | assumption, ?_⟩
  replace hE6 : Ext s5 s6 := Keeps.trans (by repeat (first | assumption | exact Keeps.refl _ _ | (refine Keeps.bumpR ?_ _) | (refine Keeps.put ?_ (by assumption) (by simp only [n_bump, n_put, n_touch, n_kill] at *; omega)))) hE6
  have hN6 := hE6.n
  repeat (first | (refine aw_seq ?_) | (refine aw_reg0 (by simp only [SZ, Nat.reduceAdd]; exact rfl) ?_) | (refine aw_reg (by decide +kernel) (by simp only [SZ, Nat.reduceAdd]; exact rfl) ?_) | (refine aw_regS (by decide +kernel) (by simp only [SZ, Nat.reduceAdd]; exact rfl) ?_) | (refine arl_nil ?_) | (refine aw_skip ?_) | (refine aw_block ?_) | (refine aw_exit ?_) | (refine aw_ret ?_) | (refine arl_cons rfl rfl (by simp +decide only [aop, abuiltin, aeval, aintBin, bin_int, aload_bump, SS, reduceIte, reduceCtorEq]; exact rfl) (by first | rfl | assumption) rfl ?_) | (refine arl_none rfl rfl (by simp +decide only [aop, abuiltin, aeval, aintBin, bin_int, aload_bump, SS, reduceIte, reduceCtorEq]; exact rfl) rfl rfl ?_) | (refine arl_off rfl rfl ?_) | (refine aw_condT (by simp +decide only [aop, abuiltin, aeval, aintBin, bin_int, aload_bump, SS, reduceIte, reduceCtorEq]; first | done | exact rfl) ?_) | (refine aw_condF (by simp +decide only [aop, abuiltin, aeval, aintBin, bin_int, aload_bump, SS, reduceIte, reduceCtorEq]; first | done | exact rfl) ?_))
  refine arl_call rfl rfl rfl rfl rfl rfl ((alike_yes (by repeat (first | assumption | (refine WF.bump ?_ _))) (((oTok_rd hY).rd.up hE6).up (by repeat (first | exact Keeps.refl _ _ | (refine Keeps.bumpR ?_ _)))) ((hWa.up ((hE4.trans hE5).trans hE6)).up (by repeat (first | exact Keeps.refl _ _ | (refine Keeps.bumpR ?_ _)))) (by omega)).wf (by repeat (first | assumption | (refine WF.bump ?_ _) | (refine WF.put ?_ (by simp only [n_bump, n_put, n_touch, n_kill] at *; omega) (by simp only [n_bump, n_put, n_touch, n_kill] at *; omega)))) |>.mono ?_)
  rintro r s7 ⟨hw7, hn7, hE7, rfl⟩
  refine ⟨by first | rfl | assumption, ?_⟩
  replace hE7 : Ext s6 s7 := Keeps.trans (by repeat (first | assumption | exact Keeps.refl _ _ | (refine Keeps.bumpR ?_ _) | (refine Keeps.put ?_ (by assumption) (by simp only [n_bump, n_put, n_touch, n_kill] at *; omega)))) hE7
  have hN7 := hE7.n
  repeat (first | (refine aw_seq ?_) | (refine aw_reg0 (by simp only [SZ, Nat.reduceAdd]; exact rfl) ?_) | (refine aw_reg (by decide +kernel) (by simp only [SZ, Nat.reduceAdd]; exact rfl) ?_) | (refine aw_regS (by decide +kernel) (by simp only [SZ, Nat.reduceAdd]; exact rfl) ?_) | (refine arl_nil ?_) | (refine aw_skip ?_) | (refine aw_block ?_) | (refine aw_exit ?_) | (refine aw_ret ?_) | (refine arl_cons rfl rfl (by simp +decide only [aop, abuiltin, aeval, aintBin, bin_int, aload_bump, SS, reduceIte, reduceCtorEq]; exact rfl) (by first | rfl | assumption) rfl ?_) | (refine arl_none rfl rfl (by simp +decide only [aop, abuiltin, aeval, aintBin, bin_int, aload_bump, SS, reduceIte, reduceCtorEq]; exact rfl) rfl rfl ?_) | (refine arl_off rfl rfl ?_) | (refine aw_condT (by simp +decide only [aop, abuiltin, aeval, aintBin, bin_int, aload_bump, SS, reduceIte, reduceCtorEq]; first | done | exact rfl) ?_) | (refine aw_condF (by simp +decide only [aop, abuiltin, aeval, aintBin, bin_int, aload_bump, SS, reduceIte, reduceCtorEq]; first | done | exact rfl) ?_))
  refine arl_call rfl rfl rfl rfl rfl rfl ((intact_yes (by repeat (first | assumption | (refine WF.bump ?_ _))) ((hW3.rd.up (((hE4.trans hE5).trans hE6).trans hE7)).up (by repeat (first | exact Keeps.refl _ _ | (refine Keeps.bumpR ?_ _)))) ((hb.up ((hS5.trans hE6).trans hE7)).up (by repeat (first | exact Keeps.refl _ _ | (refine Keeps.bumpR ?_ _)))) (by omega)).wf (by repeat (first | assumption | (refine WF.bump ?_ _) | (refine WF.put ?_ (by simp only [n_bump, n_put, n_touch, n_kill] at *; omega) (by simp only [n_bump, n_put, n_touch, n_kill] at *; omega)))) |>.mono ?_)
  rintro r s8 ⟨hw8, hn8, hE8, rfl⟩
  refine ⟨by first | rfl | assumption, ?_⟩
  replace hE8 : Ext s7 s8 := Keeps.trans (by repeat (first | assumption | exact Keeps.refl _ _ | (refine Keeps.bumpR ?_ _) | (refine Keeps.put ?_ (by assumption) (by simp only [n_bump, n_put, n_touch, n_kill] at *; omega)))) hE8
  have hN8 := hE8.n
  have hS8 : Ext s5 s8 := (hE6.trans hE7).trans hE8
  have hN8 := hS8.n
  have hlnx := RdE.len (oTok_rd hX).rd TTK
  obtain ⟨g0, hO⟩ := OwX.split (oLit_of hX)
  replace hO := hO.up (hE5.trans hS8)
  simp only [n_bump] at hL hL2 hO hX hY
  have hG0 : (∃ g, (s3.n ≤ g ∧ g < s4.n) ∧ g = g0) ∨ ts = [] := by
    rcases hO with ⟨h1, -⟩ | ⟨i, g, cs, -, -, ⟨h3, h3'⟩, -, -⟩
    · exact .inr (List.map_eq_nil_iff.1 h1)
    · exact .inl ⟨g, ⟨by omega, by omega⟩, h3'⟩
  replace hO := hO.mono (K' := fun g => g = g0 ∧ s3.n ≤ g ∧ g < s4.n) (L' := fun j g => L j g ∧ g ≠ g0) (fun g h => ⟨h.2, by omega, by omega⟩) (fun _ _ h => h)
  have hll : (ts.map (·.1)).length = ts.length := List.length_map _
  have hlk : ∀ (k : Nat) (hk : k < ts.length), ts[k].1.length ≤ 128 := fun k hk => hlits _ (List.getElem_mem hk)
  generalize hls : ts.map (·.1) = ls at hO hll
  have hlk' : ∀ (k : Nat) (hk : k < ls.length), ∃ h : k < ts.length, ls[k] = ts[k].1 := by
    intro k hk
    subst hls
    exact ⟨by simpa using hk, by simp⟩
  repeat (first | (refine aw_seq ?_) | (refine aw_reg0 (by simp only [SZ, Nat.reduceAdd]; exact rfl) ?_) | (refine aw_reg (by decide +kernel) (by simp only [SZ, Nat.reduceAdd]; exact rfl) ?_) | (refine aw_regS (by decide +kernel) (by simp only [SZ, Nat.reduceAdd]; exact rfl) ?_) | (refine arl_nil ?_) | (refine aw_skip ?_) | (refine aw_block ?_) | (refine aw_exit ?_) | (refine aw_ret ?_) | (refine arl_cons rfl rfl (by simp +decide only [aop, abuiltin, aeval, aintBin, bin_int, aload_bump, SS, reduceIte, reduceCtorEq, hlnx]; exact rfl) (by first | rfl | assumption) rfl ?_) | (refine arl_none rfl rfl (by simp +decide only [aop, abuiltin, aeval, aintBin, bin_int, aload_bump, SS, reduceIte, reduceCtorEq, hlnx]; exact rfl) rfl rfl ?_) | (refine arl_off rfl rfl ?_) | (refine aw_condT (by simp +decide only [aop, abuiltin, aeval, aintBin, bin_int, aload_bump, SS, reduceIte, reduceCtorEq, hlnx]; first | done | exact rfl) ?_) | (refine aw_condF (by simp +decide only [aop, abuiltin, aeval, aintBin, bin_int, aload_bump, SS, reduceIte, reduceCtorEq, hlnx]; first | done | exact rfl) ?_))
  refine AW.mono (AW.wf (aw_rounds_wf (fun d fr s => Keeps (fun g => s3.n ≤ g ∧ g < s4.n) s8 s ∧ ∃ (k : Nat), k ≤ ls.length ∧ d = ls.length - k ∧ fr 0 = v ∧ fr 3 = wh ∧ fr 4 = wa ∧ fr 6 = x ∧ fr 8 = y ∧ fr 69 = i64 ts.length ∧ fr 70 = i64 k ∧ OwX oLitK s (fun g => g = g0 ∧ s3.n ≤ g ∧ g < s4.n) (fun j g => L j g ∧ g ≠ g0) TK x ((ls.take k).map (·.map turn) ++ ls.drop k))
    (Q := fun e fr s => e = .exit 0 ∧ Keeps (fun g => s3.n ≤ g ∧ g < s4.n) s8 s ∧ fr 0 = v ∧ fr 3 = wh ∧ fr 4 = wa ∧ fr 6 = x ∧ fr 8 = y ∧ OwX oLitK s (fun g => g = g0 ∧ s3.n ≤ g ∧ g < s4.n) (fun j g => L j g ∧ g ≠ g0) TK x (ls.map (·.map turn))) ?_ ls.length _ _ (by repeat (first | assumption | (refine WF.bump ?_ _))) ?_) (by repeat (first | assumption | (refine WF.bump ?_ _)))) ?_
  · rintro d fr s hws ⟨hE, k, hk, rfl, f0, f3, f4, f6, f8, f69, f70, hP⟩
    have hEn := hE.n
    by_cases hlt : k < ls.length
    · have hd : decide ((k : Int) < (ts.length : Int)) = true := decide_eq_true (by omega)
      have hlen : ((ls.take k).map (·.map turn) ++ ls.drop k).length = ls.length := by simp; omega
      have hel : ((ls.take k).map (·.map turn) ++ ls.drop k)[k]'(by omega) = ls[k] := by
        rw [List.getElem_append_right (by simp; omega)]
        simp [Nat.min_eq_left (Nat.le_of_lt hlt)]
      have hset : ((ls.take k).map (·.map turn) ++ ls.drop k).set k (ls[k].map turn) = (ls.take (k + 1)).map (·.map turn) ++ ls.drop (k + 1) := by
        have e1 : ((ls.take k).map (·.map turn)).length = k := by simp; omega
        rw [List.set_append_right _ _ (by omega), e1, Nat.sub_self, List.drop_eq_getElem_cons hlt, List.set_cons_zero, List.take_succ_eq_append_getElem hlt, List.map_append]
        simp
      obtain ⟨i, g, cs, c, dd, nn, e1, e2, e3, e4, e5, e6, e7, e8, e9, e10⟩ := oLit_at hP k (by omega)
      rw [hel] at e10
      obtain ⟨hkt, hke⟩ := hlk' k hlt
      have hkl := hlk k hkt
      rw [← hke] at hkl
      have hwk := wrap_succ (k := k) (by omega)
      repeat (first | (refine aw_seq ?_) | (refine aw_reg0 (by simp only [SZ, Nat.reduceAdd]; exact rfl) ?_) | (refine aw_reg (by decide +kernel) (by simp only [SZ, Nat.reduceAdd]; exact rfl) ?_) | (refine aw_regS (by decide +kernel) (by simp only [SZ, Nat.reduceAdd]; exact rfl) ?_) | (refine arl_nil ?_) | (refine aw_skip ?_) | (refine aw_block ?_) | (refine aw_exit ?_) | (refine aw_ret ?_) | (refine arl_cons rfl rfl (by simp +decide only [aop, abuiltin, aeval, aintBin, bin_int, aload_bump, SS, reduceIte, reduceCtorEq, f69, f70, hd, f6, e5, faT0, e6]; exact rfl) (by first | rfl | assumption) rfl ?_) | (refine arl_none rfl rfl (by simp +decide only [aop, abuiltin, aeval, aintBin, bin_int, aload_bump, SS, reduceIte, reduceCtorEq, f69, f70, hd, f6, e5, faT0, e6]; exact rfl) rfl rfl ?_) | (refine arl_off rfl rfl ?_) | (refine aw_condT (by simp +decide only [aop, abuiltin, aeval, aintBin, bin_int, aload_bump, SS, reduceIte, reduceCtorEq, f69, f70, hd, f6, e5, faT0, e6]; first | done | exact rfl) ?_) | (refine aw_condF (by simp +decide only [aop, abuiltin, aeval, aintBin, bin_int, aload_bump, SS, reduceIte, reduceCtorEq, f69, f70, hd, f6, e5, faT0, e6]; first | done | exact rfl) ?_))
      refine arl_call rfl rfl rfl rfl rfl rfl ((spoil_ok (by repeat (first | assumption | (refine WF.bump ?_ _))) (e10.up (by repeat (first | exact Keeps.refl _ _ | (refine Keeps.bumpR ?_ _)))) (by omega)).wf (by repeat (first | assumption | (refine WF.bump ?_ _) | (refine WF.put ?_ (by simp only [n_bump, n_put, n_touch, n_kill] at *; omega) (by simp only [n_bump, n_put, n_touch, n_kill] at *; omega)))) |>.mono ?_)
      rintro r s6' ⟨hw6', hn6', hE6', hrs6, hc6, -⟩
      refine ⟨hrs6, ?_⟩
      replace hE6' : Keeps (fun h => (L k h ∧ h ≠ g0) ∧ h ≠ g) s s6' := Keeps.trans (Keeps.mono (G := fun _ => False) (show Ext s _ from (by repeat (first | exact Keeps.refl _ _ | (refine Keeps.bumpR ?_ _)))) (fun _ h => h.elim)) hE6'
      have hP6 := OwX.upd hP (j := k) (x := ls[k].map turn) (by rw [e1]; rfl) e2 hE6' (fun h hh => hh.1) (fun h hh hl => hl.2 hh.1) (fun i h hi hk => hLd i k h hi.1 hk.1) ⟨c, dd, nn, by have : oLitK.s = 3 := rfl; rw [this]; exact e9, hc6⟩
      rw [hset] at hP6
      repeat (first | (refine aw_seq ?_) | (refine aw_reg0 (by simp only [SZ, Nat.reduceAdd]; exact rfl) ?_) | (refine aw_reg (by decide +kernel) (by simp only [SZ, Nat.reduceAdd]; exact rfl) ?_) | (refine aw_regS (by decide +kernel) (by simp only [SZ, Nat.reduceAdd]; exact rfl) ?_) | (refine arl_nil ?_) | (refine aw_skip ?_) | (refine aw_block ?_) | (refine aw_exit ?_) | (refine aw_ret ?_) | (refine arl_cons rfl rfl (by simp +decide only [aop, abuiltin, aeval, aintBin, bin_int, aload_bump, SS, reduceIte, reduceCtorEq, f70, hwk]; exact rfl) (by first | rfl | assumption) rfl ?_) | (refine arl_none rfl rfl (by simp +decide only [aop, abuiltin, aeval, aintBin, bin_int, aload_bump, SS, reduceIte, reduceCtorEq, f70, hwk]; exact rfl) rfl rfl ?_) | (refine arl_off rfl rfl ?_) | (refine aw_condT (by simp +decide only [aop, abuiltin, aeval, aintBin, bin_int, aload_bump, SS, reduceIte, reduceCtorEq, f70, hwk]; first | done | exact rfl) ?_) | (refine aw_condF (by simp +decide only [aop, abuiltin, aeval, aintBin, bin_int, aload_bump, SS, reduceIte, reduceCtorEq, f70, hwk]; first | done | exact rfl) ?_))
      exact ⟨ls.length - (k + 1), by omega, hE.trans ((hE6'.mono (fun h hh => by have := hL k h hh.1.1; omega)).trans (Keeps.mono (G := fun _ => False) (by repeat (first | exact Keeps.refl _ _ | (refine Keeps.bumpR ?_ _))) (fun _ h => h.elim))), k + 1, by omega, rfl, f0, f3, f4, f6, f8, f69, rfl, hP6.up (by repeat (first | exact Keeps.refl _ _ | (refine Keeps.bumpR ?_ _)))⟩
    · have hd : decide ((k : Int) < (ts.length : Int)) = false := decide_eq_false (by omega)
      rw [List.take_of_length_le (by omega), List.drop_of_length_le (by omega), List.append_nil] at hP
      repeat (first | (refine aw_seq ?_) | (refine aw_reg0 (by simp only [SZ, Nat.reduceAdd]; exact rfl) ?_) | (refine aw_reg (by decide +kernel) (by simp only [SZ, Nat.reduceAdd]; exact rfl) ?_) | (refine aw_regS (by decide +kernel) (by simp only [SZ, Nat.reduceAdd]; exact rfl) ?_) | (refine arl_nil ?_) | (refine aw_skip ?_) | (refine aw_block ?_) | (refine aw_exit ?_) | (refine aw_ret ?_) | (refine arl_cons rfl rfl (by simp +decide only [aop, abuiltin, aeval, aintBin, bin_int, aload_bump, SS, reduceIte, reduceCtorEq, f69, f70, hd]; exact rfl) (by first | rfl | assumption) rfl ?_) | (refine arl_none rfl rfl (by simp +decide only [aop, abuiltin, aeval, aintBin, bin_int, aload_bump, SS, reduceIte, reduceCtorEq, f69, f70, hd]; exact rfl) rfl rfl ?_) | (refine arl_off rfl rfl ?_) | (refine aw_condT (by simp +decide only [aop, abuiltin, aeval, aintBin, bin_int, aload_bump, SS, reduceIte, reduceCtorEq, f69, f70, hd]; first | done | exact rfl) ?_) | (refine aw_condF (by simp +decide only [aop, abuiltin, aeval, aintBin, bin_int, aload_bump, SS, reduceIte, reduceCtorEq, f69, f70, hd]; first | done | exact rfl) ?_))
      exact ⟨rfl, hE.trans (Keeps.mono (G := fun _ => False) (by repeat (first | exact Keeps.refl _ _ | (refine Keeps.bumpR ?_ _))) (fun _ h => h.elim)), f0, f3, f4, f6, f8, hP.up (by repeat (first | exact Keeps.refl _ _ | (refine Keeps.bumpR ?_ _)))⟩
  · refine ⟨Keeps.mono (G := fun _ => False) (by repeat (first | exact Keeps.refl _ _ | (refine Keeps.bumpR ?_ _))) (fun _ h => h.elim), 0, by omega, rfl, rfl, rfl, rfl, rfl, rfl, rfl, rfl, ?_⟩
    exact hO.up (by repeat (first | exact Keeps.refl _ _ | (refine Keeps.bumpR ?_ _)))
  rintro e1 fr1 s9 ⟨hw9, hn9, rfl, hE9, f0, f3, f4, f6, f8, hP9⟩
  have hN9 := hE9.n
  have hlt2 : (ls.map (·.map turn)).length = ls.length := List.length_map _
  repeat (first | (refine aw_seq ?_) | (refine aw_reg0 (by simp only [SZ, Nat.reduceAdd]; exact rfl) ?_) | (refine aw_reg (by decide +kernel) (by simp only [SZ, Nat.reduceAdd]; exact rfl) ?_) | (refine aw_regS (by decide +kernel) (by simp only [SZ, Nat.reduceAdd]; exact rfl) ?_) | (refine arl_nil ?_) | (refine aw_skip ?_) | (refine aw_block ?_) | (refine aw_exit ?_) | (refine aw_ret ?_) | (refine arl_cons rfl rfl (by simp +decide only [aop, abuiltin, aeval, aintBin, bin_int, aload_bump, SS, reduceIte, reduceCtorEq, f6, hlnx]; exact rfl) (by first | rfl | assumption) rfl ?_) | (refine arl_none rfl rfl (by simp +decide only [aop, abuiltin, aeval, aintBin, bin_int, aload_bump, SS, reduceIte, reduceCtorEq, f6, hlnx]; exact rfl) rfl rfl ?_) | (refine arl_off rfl rfl ?_) | (refine aw_condT (by simp +decide only [aop, abuiltin, aeval, aintBin, bin_int, aload_bump, SS, reduceIte, reduceCtorEq, f6, hlnx]; first | done | exact rfl) ?_) | (refine aw_condF (by simp +decide only [aop, abuiltin, aeval, aintBin, bin_int, aload_bump, SS, reduceIte, reduceCtorEq, f6, hlnx]; first | done | exact rfl) ?_))
  refine AW.mono (AW.wf (aw_rounds_wf (fun d fr s => Keeps (fun g => s3.n ≤ g ∧ g < s4.n) s9 s ∧ ∃ (k : Nat), k ≤ ls.length ∧ d = ls.length - k ∧ fr 0 = v ∧ fr 3 = wh ∧ fr 4 = wa ∧ fr 6 = x ∧ fr 8 = y ∧ fr 81 = i64 ts.length ∧ fr 82 = i64 k ∧ OwX oLitK s (fun g => g = g0 ∧ s3.n ≤ g ∧ g < s4.n) (fun j g => L j g ∧ g ≠ g0) TK x (ls.map (·.map turn)))
    (Q := fun e fr s => e = .exit 2 ∧ Keeps (fun g => s3.n ≤ g ∧ g < s4.n) s9 s ∧ fr 0 = v ∧ fr 3 = wh ∧ fr 4 = wa ∧ fr 6 = x ∧ fr 8 = y ∧ OwX oLitK s (fun g => g = g0 ∧ s3.n ≤ g ∧ g < s4.n) (fun j g => L j g ∧ g ≠ g0) TK x (ls.map (·.map turn))) ?_ ls.length _ _ (by repeat (first | assumption | (refine WF.bump ?_ _))) ?_) (by repeat (first | assumption | (refine WF.bump ?_ _)))) ?_
  · rintro d fr s hws ⟨hE, k, hk, rfl, f0, f3, f4, f6, f8, f81, f82, hP⟩
    have hEn := hE.n
    by_cases hlt : k < ls.length
    · have hd : decide ((k : Int) < (ts.length : Int)) = true := decide_eq_true (by omega)
      obtain ⟨i, g, cs, c, dd, nn, e1, e2, e3, e4, e5, e6, e7, e8, e9, e10⟩ := oLit_at hP k (by omega)
      rw [List.getElem_map] at e10
      obtain ⟨hkt, hke⟩ := hlk' k hlt
      have hkl := hlk k hkt
      rw [← hke] at hkl
      have hwk := wrap_succ (k := k) (by omega)
      have hset2 : (ls.map (·.map turn)).set k (ls[k].map turn) = ls.map (·.map turn) := by
        apply List.ext_getElem (by simp)
        intro q h1 h2
        rw [List.getElem_set]
        split
        · rename_i h; subst h; simp
        · rfl
      repeat (first | (refine aw_seq ?_) | (refine aw_reg0 (by simp only [SZ, Nat.reduceAdd]; exact rfl) ?_) | (refine aw_reg (by decide +kernel) (by simp only [SZ, Nat.reduceAdd]; exact rfl) ?_) | (refine aw_regS (by decide +kernel) (by simp only [SZ, Nat.reduceAdd]; exact rfl) ?_) | (refine arl_nil ?_) | (refine aw_skip ?_) | (refine aw_block ?_) | (refine aw_exit ?_) | (refine aw_ret ?_) | (refine arl_cons rfl rfl (by simp +decide only [aop, abuiltin, aeval, aintBin, bin_int, aload_bump, SS, reduceIte, reduceCtorEq, f81, f82, hd, f6, e5, faT0, e6]; exact rfl) (by first | rfl | assumption) rfl ?_) | (refine arl_none rfl rfl (by simp +decide only [aop, abuiltin, aeval, aintBin, bin_int, aload_bump, SS, reduceIte, reduceCtorEq, f81, f82, hd, f6, e5, faT0, e6]; exact rfl) rfl rfl ?_) | (refine arl_off rfl rfl ?_) | (refine aw_condT (by simp +decide only [aop, abuiltin, aeval, aintBin, bin_int, aload_bump, SS, reduceIte, reduceCtorEq, f81, f82, hd, f6, e5, faT0, e6]; first | done | exact rfl) ?_) | (refine aw_condF (by simp +decide only [aop, abuiltin, aeval, aintBin, bin_int, aload_bump, SS, reduceIte, reduceCtorEq, f81, f82, hd, f6, e5, faT0, e6]; first | done | exact rfl) ?_))
      refine AW.mono (AW.wf (aw_rounds_wf (fun d' fr' s' => Keeps (fun h => ((L k h ∧ h ≠ g0) ∧ h ≠ g) ∨ s.n ≤ h) s s' ∧ Short ls[k].length s s' ∧ ∃ (q : Nat) (zs : List Int), q ≤ 70 ∧ d' = 70 - q ∧ zs.length = q ∧ fr' 0 = v ∧ fr' 3 = wh ∧ fr' 4 = wa ∧ fr' 6 = x ∧ fr' 8 = y ∧ fr' 81 = i64 ts.length ∧ fr' 82 = i64 k ∧ fr' 11 = i64 k ∧ fr' 13 = i64 q ∧ OwB s' (fun h => ((L k h ∧ h ≠ g0) ∧ h ≠ g) ∨ s.n ≤ h) (fr' 12) (ls[k].map turn ++ zs))
        (Q := fun e' fr' s' => e' = .exit 4 ∧ Keeps (fun h => ((L k h ∧ h ≠ g0) ∧ h ≠ g) ∨ s.n ≤ h) s s' ∧ Short ls[k].length s s' ∧ fr' 0 = v ∧ fr' 3 = wh ∧ fr' 4 = wa ∧ fr' 6 = x ∧ fr' 8 = y ∧ fr' 81 = i64 ts.length ∧ fr' 82 = i64 k) ?_ 70 _ _ (by repeat (first | assumption | (refine WF.bump ?_ _))) ?_) (by repeat (first | assumption | (refine WF.bump ?_ _)))) ?_
      · rintro d' fr' s' hws' ⟨hE', hS', q, zs, hq, rfl, hz, f0, f3, f4, f6, f8, f81, f82, f11, f13, hO'⟩
        have hos := hO'.solid
        have hEn' := hE'.n
        by_cases hq70 : q < 70
        · have hd2 : decide ((q : Int) < 70) = true := decide_eq_true (by omega)
          have hwq := wrap_succ (k := q) (by omega)
          repeat (first | (refine aw_seq ?_) | (refine aw_reg0 (by simp only [SZ, Nat.reduceAdd]; exact rfl) ?_) | (refine aw_reg (by decide +kernel) (by simp only [SZ, Nat.reduceAdd]; exact rfl) ?_) | (refine aw_regS (by decide +kernel) (by simp only [SZ, Nat.reduceAdd]; exact rfl) ?_) | (refine arl_nil ?_) | (refine aw_skip ?_) | (refine aw_block ?_) | (refine aw_exit ?_) | (refine aw_ret ?_) | (refine arl_cons rfl rfl (by simp +decide only [aop, abuiltin, aeval, aintBin, bin_int, aload_bump, SS, reduceIte, reduceCtorEq, f13, hd2, f11, conv_int Try.underlying3 Try.underlying5, lit1]; exact rfl) (by first | rfl | assumption) rfl ?_) | (refine arl_none rfl rfl (by simp +decide only [aop, abuiltin, aeval, aintBin, bin_int, aload_bump, SS, reduceIte, reduceCtorEq, f13, hd2, f11, conv_int Try.underlying3 Try.underlying5, lit1]; exact rfl) rfl rfl ?_) | (refine arl_off rfl rfl ?_) | (refine aw_condT (by simp +decide only [aop, abuiltin, aeval, aintBin, bin_int, aload_bump, SS, reduceIte, reduceCtorEq, f13, hd2, f11, conv_int Try.underlying3 Try.underlying5, lit1]; first | done | exact rfl) ?_) | (refine aw_condF (by simp +decide only [aop, abuiltin, aeval, aintBin, bin_int, aload_bump, SS, reduceIte, reduceCtorEq, f13, hd2, f11, conv_int Try.underlying3 Try.underlying5, lit1]; first | done | exact rfl) ?_))
          refine arl_appS (K := fun h => ((L k h ∧ h ≠ g0) ∧ h ≠ g) ∨ s.n ≤ h) (K' := fun _ => True) (xs := ls[k].map turn ++ zs) (ns := [IntKind.u8.wrap (IntKind.i64.wrap ((q : Int) + (k : Int)))]) rfl rfl rfl (hO'.keep (G := fun _ => False) (by repeat (first | assumption | exact Keeps.refl _ _ | (refine Keeps.bumpR ?_ _) | (refine Keeps.put ?_ (by assumption) (by simp only [n_bump, n_put, n_touch, n_kill] at *; omega)))) (fun _ _ h => h)) (RdB.lit _ _ _ [_]) (.inr (by simp only [n_bump, n_put, n_touch, n_kill] at *; omega)) (by simp; omega) ?_
          intro y2 s4' hO2 hn2 hK2 hS2
          have hys2 := hO2.solid
          have hE4' := hK2 (fun h => ((L k h ∧ h ≠ g0) ∧ h ≠ g) ∨ s.n ≤ h) s hws (by repeat (first | assumption | exact Keeps.refl _ _ | (refine Keeps.bumpR ?_ _) | (refine Keeps.put ?_ (by assumption) (by simp only [n_bump, n_put, n_touch, n_kill] at *; omega)))) (by simp only [n_bump, n_put, n_touch, n_kill] at *; omega) (fun g hg => .inl hg)
          have hS4' := hS2 ls[k].length s hws (((hS'.bump _).bump _).put hws (by simp only [n_bump, n_put, n_touch, n_kill] at *; omega)) (by simp only [n_bump, n_put, n_touch, n_kill] at *; omega) (by simp)
          repeat (first | (refine aw_seq ?_) | (refine aw_reg0 (by simp only [SZ, Nat.reduceAdd]; exact rfl) ?_) | (refine aw_reg (by decide +kernel) (by simp only [SZ, Nat.reduceAdd]; exact rfl) ?_) | (refine aw_regS (by decide +kernel) (by simp only [SZ, Nat.reduceAdd]; exact rfl) ?_) | (refine arl_nil ?_) | (refine aw_skip ?_) | (refine aw_block ?_) | (refine aw_exit ?_) | (refine aw_ret ?_) | (refine arl_cons rfl rfl (by simp +decide only [aop, abuiltin, aeval, aintBin, bin_int, aload_bump, SS, reduceIte, reduceCtorEq, f13, hwq]; exact rfl) (by first | rfl | assumption) rfl ?_) | (refine arl_none rfl rfl (by simp +decide only [aop, abuiltin, aeval, aintBin, bin_int, aload_bump, SS, reduceIte, reduceCtorEq, f13, hwq]; exact rfl) rfl rfl ?_) | (refine arl_off rfl rfl ?_) | (refine aw_condT (by simp +decide only [aop, abuiltin, aeval, aintBin, bin_int, aload_bump, SS, reduceIte, reduceCtorEq, f13, hwq]; first | done | exact rfl) ?_) | (refine aw_condF (by simp +decide only [aop, abuiltin, aeval, aintBin, bin_int, aload_bump, SS, reduceIte, reduceCtorEq, f13, hwq]; first | done | exact rfl) ?_))
          refine ⟨70 - (q + 1), by omega, (by repeat (first | assumption | exact Keeps.refl _ _ | (refine Keeps.bumpR ?_ _) | (refine Keeps.put ?_ (by assumption) (by simp only [n_bump, n_put, n_touch, n_kill] at *; omega)))), hS4'.bump _, q + 1, zs ++ [IntKind.u8.wrap (IntKind.i64.wrap ((q : Int) + (k : Int)))], by omega, rfl, by simp; omega, f0, f3, f4, f6, f8, f81, f82, f11, rfl, ?_⟩
          rw [← List.append_assoc]
          exact hO2.bump _
        · have hd2 : decide ((q : Int) < 70) = false := decide_eq_false (by omega)
          repeat (first | (refine aw_seq ?_) | (refine aw_reg0 (by simp only [SZ, Nat.reduceAdd]; exact rfl) ?_) | (refine aw_reg (by decide +kernel) (by simp only [SZ, Nat.reduceAdd]; exact rfl) ?_) | (refine aw_regS (by decide +kernel) (by simp only [SZ, Nat.reduceAdd]; exact rfl) ?_) | (refine arl_nil ?_) | (refine aw_skip ?_) | (refine aw_block ?_) | (refine aw_exit ?_) | (refine aw_ret ?_) | (refine arl_cons rfl rfl (by simp +decide only [aop, abuiltin, aeval, aintBin, bin_int, aload_bump, SS, reduceIte, reduceCtorEq, f13, hd2]; exact rfl) (by first | rfl | assumption) rfl ?_) | (refine arl_none rfl rfl (by simp +decide only [aop, abuiltin, aeval, aintBin, bin_int, aload_bump, SS, reduceIte, reduceCtorEq, f13, hd2]; exact rfl) rfl rfl ?_) | (refine arl_off rfl rfl ?_) | (refine aw_condT (by simp +decide only [aop, abuiltin, aeval, aintBin, bin_int, aload_bump, SS, reduceIte, reduceCtorEq, f13, hd2]; first | done | exact rfl) ?_) | (refine aw_condF (by simp +decide only [aop, abuiltin, aeval, aintBin, bin_int, aload_bump, SS, reduceIte, reduceCtorEq, f13, hd2]; first | done | exact rfl) ?_))
          exact ⟨rfl, (by repeat (first | assumption | exact Keeps.refl _ _ | (refine Keeps.bumpR ?_ _) | (refine Keeps.put ?_ (by assumption) (by simp only [n_bump, n_put, n_touch, n_kill] at *; omega)))), hS'.bump _, f0, f3, f4, f6, f8, f81, f82⟩
      · refine ⟨(by repeat (first | assumption | exact Keeps.refl _ _ | (refine Keeps.bumpR ?_ _) | (refine Keeps.put ?_ (by assumption) (by simp only [n_bump, n_put, n_touch, n_kill] at *; omega)))), ((((Short.refl _ _).bump _).bump _).bump _).bump _, 0, [], by omega, rfl, rfl, f0, f3, f4, f6, f8, f81, f82, rfl, rfl, ?_⟩
        rw [List.append_nil]
        exact (e10.mono (fun h hh => .inl hh)).up (by repeat (first | exact Keeps.refl _ _ | (refine Keeps.bumpR ?_ _)))
      rintro e2' fr2 s7' ⟨hw7', hn7', rfl, hE7', hS7', f0, f3, f4, f6, f8, f81, f82⟩
      have hc7 := e10.short hS7' (by simp)
      replace hE7' : Keeps (fun h => ((L k h ∧ h ≠ g0) ∧ h ≠ g)) s s7' := Keeps.call (Keeps.refl _ _) hE7' hws (fun _ hh => hh)
      have hP7 := OwX.upd hP (j := k) (x := ls[k].map turn) (by rw [e1]; rfl) e2 hE7' (fun h hh => hh.1) (fun h hh hl => hl.2 hh.1) (fun i h hi hk => hLd i k h hi.1 hk.1) ⟨c, dd, nn, by have : oLitK.s = 3 := rfl; rw [this]; exact e9, hc7⟩
      rw [hset2] at hP7
      repeat (first | (refine aw_seq ?_) | (refine aw_reg0 (by simp only [SZ, Nat.reduceAdd]; exact rfl) ?_) | (refine aw_reg (by decide +kernel) (by simp only [SZ, Nat.reduceAdd]; exact rfl) ?_) | (refine aw_regS (by decide +kernel) (by simp only [SZ, Nat.reduceAdd]; exact rfl) ?_) | (refine arl_nil ?_) | (refine aw_skip ?_) | (refine aw_block ?_) | (refine aw_exit ?_) | (refine aw_ret ?_) | (refine arl_cons rfl rfl (by simp +decide only [aop, abuiltin, aeval, aintBin, bin_int, aload_bump, SS, reduceIte, reduceCtorEq, f82, hwk]; exact rfl) (by first | rfl | assumption) rfl ?_) | (refine arl_none rfl rfl (by simp +decide only [aop, abuiltin, aeval, aintBin, bin_int, aload_bump, SS, reduceIte, reduceCtorEq, f82, hwk]; exact rfl) rfl rfl ?_) | (refine arl_off rfl rfl ?_) | (refine aw_condT (by simp +decide only [aop, abuiltin, aeval, aintBin, bin_int, aload_bump, SS, reduceIte, reduceCtorEq, f82, hwk]; first | done | exact rfl) ?_) | (refine aw_condF (by simp +decide only [aop, abuiltin, aeval, aintBin, bin_int, aload_bump, SS, reduceIte, reduceCtorEq, f82, hwk]; first | done | exact rfl) ?_))
      exact ⟨ls.length - (k + 1), by omega, hE.trans ((hE7'.mono (fun h hh => by have := hL k h hh.1.1; omega)).trans (Keeps.mono (G := fun _ => False) (by repeat (first | exact Keeps.refl _ _ | (refine Keeps.bumpR ?_ _))) (fun _ h => h.elim))), k + 1, by omega, rfl, f0, f3, f4, f6, f8, f81, rfl, hP7.up (by repeat (first | exact Keeps.refl _ _ | (refine Keeps.bumpR ?_ _)))⟩
    · have hd : decide ((k : Int) < (ts.length : Int)) = false := decide_eq_false (by omega)
      repeat (first | (refine aw_seq ?_) | (refine aw_reg0 (by simp only [SZ, Nat.reduceAdd]; exact rfl) ?_) | (refine aw_reg (by decide +kernel) (by simp only [SZ, Nat.reduceAdd]; exact rfl) ?_) | (refine aw_regS (by decide +kernel) (by simp only [SZ, Nat.reduceAdd]; exact rfl) ?_) | (refine arl_nil ?_) | (refine aw_skip ?_) | (refine aw_block ?_) | (refine aw_exit ?_) | (refine aw_ret ?_) | (refine arl_cons rfl rfl (by simp +decide only [aop, abuiltin, aeval, aintBin, bin_int, aload_bump, SS, reduceIte, reduceCtorEq, f81, f82, hd]; exact rfl) (by first | rfl | assumption) rfl ?_) | (refine arl_none rfl rfl (by simp +decide only [aop, abuiltin, aeval, aintBin, bin_int, aload_bump, SS, reduceIte, reduceCtorEq, f81, f82, hd]; exact rfl) rfl rfl ?_) | (refine arl_off rfl rfl ?_) | (refine aw_condT (by simp +decide only [aop, abuiltin, aeval, aintBin, bin_int, aload_bump, SS, reduceIte, reduceCtorEq, f81, f82, hd]; first | done | exact rfl) ?_) | (refine aw_condF (by simp +decide only [aop, abuiltin, aeval, aintBin, bin_int, aload_bump, SS, reduceIte, reduceCtorEq, f81, f82, hd]; first | done | exact rfl) ?_))
      exact ⟨rfl, hE.trans (Keeps.mono (G := fun _ => False) (by repeat (first | exact Keeps.refl _ _ | (refine Keeps.bumpR ?_ _))) (fun _ h => h.elim)), f0, f3, f4, f6, f8, hP.up (by repeat (first | exact Keeps.refl _ _ | (refine Keeps.bumpR ?_ _)))⟩
  · refine ⟨(Keeps.mono (G := fun _ => False) (by repeat (first | exact Keeps.refl _ _ | (refine Keeps.bumpR ?_ _))) (fun _ h => h.elim)), 0, by omega, rfl, f0, f3, f4, f6, f8, rfl, rfl, ?_⟩
    exact hP9.up (by repeat (first | exact Keeps.refl _ _ | (refine Keeps.bumpR ?_ _)))
  rintro e2 fr2 s10 ⟨hw10, hn10, rfl, hE10, f0, f3, f4, f6, f8, hP10⟩
  have hN10 := hE10.n
  have hQ10 : Keeps (fun g => s3.n ≤ g ∧ g < s4.n) s8 s10 := hE9.trans hE10
  have hWa10 := (hWa.up ((hE4.trans hE5).trans hS8)).keep hQ10 (fun g h h' => by omega)
  repeat (first | (refine aw_seq ?_) | (refine aw_reg0 (by simp only [SZ, Nat.reduceAdd]; exact rfl) ?_) | (refine aw_reg (by decide +kernel) (by simp only [SZ, Nat.reduceAdd]; exact rfl) ?_) | (refine aw_regS (by decide +kernel) (by simp only [SZ, Nat.reduceAdd]; exact rfl) ?_) | (refine arl_nil ?_) | (refine aw_skip ?_) | (refine aw_block ?_) | (refine aw_exit ?_) | (refine aw_ret ?_) | (refine arl_cons rfl rfl (by simp +decide only [aop, abuiltin, aeval, aintBin, bin_int, aload_bump, SS, reduceIte, reduceCtorEq, f6, hlnx]; exact rfl) (by first | rfl | assumption) rfl ?_) | (refine arl_none rfl rfl (by simp +decide only [aop, abuiltin, aeval, aintBin, bin_int, aload_bump, SS, reduceIte, reduceCtorEq, f6, hlnx]; exact rfl) rfl rfl ?_) | (refine arl_off rfl rfl ?_) | (refine aw_condT (by simp +decide only [aop, abuiltin, aeval, aintBin, bin_int, aload_bump, SS, reduceIte, reduceCtorEq, f6, hlnx]; first | done | exact rfl) ?_) | (refine aw_condF (by simp +decide only [aop, abuiltin, aeval, aintBin, bin_int, aload_bump, SS, reduceIte, reduceCtorEq, f6, hlnx]; first | done | exact rfl) ?_))
  refine AW.mono (AW.wf (aw_rounds_wf (fun d fr s => Keeps (fun g => s3.n ≤ g ∧ g < s4.n) s10 s ∧ ∃ (k : Nat), k ≤ ls.length ∧ d = ls.length - k ∧ fr 0 = v ∧ fr 3 = wh ∧ fr 4 = wa ∧ fr 6 = x ∧ fr 8 = y ∧ fr 103 = i64 ts.length ∧ fr 104 = i64 k ∧ OwX oLitK s (fun g => g = g0 ∧ s3.n ≤ g ∧ g < s4.n) (fun j g => L j g ∧ g ≠ g0) TK x (ls.map (·.map turn)))
    (Q := fun e fr s => e = .exit 6 ∧ Keeps (fun g => s3.n ≤ g ∧ g < s4.n) s10 s ∧ fr 0 = v ∧ fr 3 = wh ∧ fr 4 = wa ∧ fr 8 = y) ?_ ls.length _ _ (by repeat (first | assumption | (refine WF.bump ?_ _))) ?_) (by repeat (first | assumption | (refine WF.bump ?_ _)))) ?_
  · rintro d fr sz hws ⟨hE, k, hk, rfl, f0, f3, f4, f6, f8, f103, f104, hP⟩
    have hEn := hE.n
    by_cases hlt : k < ls.length
    · have hd : decide ((k : Int) < (ts.length : Int)) = true := decide_eq_true (by omega)
      obtain ⟨hkt, hke⟩ := hlk' k hlt
      have hkl := hlk k hkt
      obtain ⟨i, g, cs, c, dd, nn, e1, e2, e3, e4, e5, e6, e7, e8, e9, e10⟩ := oLit_at hP k (by omega)
      rw [List.getElem_map, hke] at e10
      obtain ⟨i', off', c', a1, a2, a3, a4, a5, a6⟩ := tk_cells (hWa10.keep hE (fun g h h' => by omega)) k hkt
      have hwk := wrap_succ (k := k) (by omega)
      repeat (first | (refine aw_seq ?_) | (refine aw_reg0 (by simp only [SZ, Nat.reduceAdd]; exact rfl) ?_) | (refine aw_reg (by decide +kernel) (by simp only [SZ, Nat.reduceAdd]; exact rfl) ?_) | (refine aw_regS (by decide +kernel) (by simp only [SZ, Nat.reduceAdd]; exact rfl) ?_) | (refine arl_nil ?_) | (refine aw_skip ?_) | (refine aw_block ?_) | (refine aw_exit ?_) | (refine aw_ret ?_) | (refine arl_cons rfl rfl (by simp +decide only [aop, abuiltin, aeval, aintBin, bin_int, aload_bump, SS, reduceIte, reduceCtorEq, f103, f104, hd, f6, e5, faT0, e6, f4, a1, a2]; exact rfl) (by first | rfl | assumption) rfl ?_) | (refine arl_none rfl rfl (by simp +decide only [aop, abuiltin, aeval, aintBin, bin_int, aload_bump, SS, reduceIte, reduceCtorEq, f103, f104, hd, f6, e5, faT0, e6, f4, a1, a2]; exact rfl) rfl rfl ?_) | (refine arl_off rfl rfl ?_) | (refine aw_condT (by simp +decide only [aop, abuiltin, aeval, aintBin, bin_int, aload_bump, SS, reduceIte, reduceCtorEq, f103, f104, hd, f6, e5, faT0, e6, f4, a1, a2]; first | done | exact rfl) ?_) | (refine aw_condF (by simp +decide only [aop, abuiltin, aeval, aintBin, bin_int, aload_bump, SS, reduceIte, reduceCtorEq, f103, f104, hd, f6, e5, faT0, e6, f4, a1, a2]; first | done | exact rfl) ?_))
      refine arl_call rfl rfl rfl rfl rfl rfl ((turned_ok (by repeat (first | assumption | (refine WF.bump ?_ _))) (e10.rd.up (by repeat (first | exact Keeps.refl _ _ | (refine Keeps.bumpR ?_ _)))) (a5.up (by repeat (first | exact Keeps.refl _ _ | (refine Keeps.bumpR ?_ _)))) (by omega)).wf (by repeat (first | assumption | (refine WF.bump ?_ _) | (refine WF.put ?_ (by simp only [n_bump, n_put, n_touch, n_kill] at *; omega) (by simp only [n_bump, n_put, n_touch, n_kill] at *; omega)))) |>.mono ?_)
      rintro r s11 ⟨hw11, hn11, hE11, rfl⟩
      refine ⟨by first | rfl | assumption, ?_⟩
      replace hE11 : Ext sz s11 := Keeps.trans (by repeat (first | assumption | exact Keeps.refl _ _ | (refine Keeps.bumpR ?_ _) | (refine Keeps.put ?_ (by assumption) (by simp only [n_bump, n_put, n_touch, n_kill] at *; omega)))) hE11
      have hN11 := hE11.n
      obtain ⟨i2, g2, cs2, c2, dd2, nn2, b1, b2, b3, b4, b5, b6, b7, b8, b9, b10⟩ := oLit_at (hP.up hE11) k (by omega)
      repeat (first | (refine aw_seq ?_) | (refine aw_reg0 (by simp only [SZ, Nat.reduceAdd]; exact rfl) ?_) | (refine aw_reg (by decide +kernel) (by simp only [SZ, Nat.reduceAdd]; exact rfl) ?_) | (refine aw_regS (by decide +kernel) (by simp only [SZ, Nat.reduceAdd]; exact rfl) ?_) | (refine arl_nil ?_) | (refine aw_skip ?_) | (refine aw_block ?_) | (refine aw_exit ?_) | (refine aw_ret ?_) | (refine arl_cons rfl rfl (by simp +decide only [aop, abuiltin, aeval, aintBin, bin_int, aload_bump, SS, reduceIte, reduceCtorEq, f6, b5, faT1, b7]; exact rfl) (by first | rfl | assumption) rfl ?_) | (refine arl_none rfl rfl (by simp +decide only [aop, abuiltin, aeval, aintBin, bin_int, aload_bump, SS, reduceIte, reduceCtorEq, f6, b5, faT1, b7]; exact rfl) rfl rfl ?_) | (refine arl_off rfl rfl ?_) | (refine aw_condT (by simp +decide only [aop, abuiltin, aeval, aintBin, bin_int, aload_bump, SS, reduceIte, reduceCtorEq, f6, b5, faT1, b7]; first | done | exact rfl) ?_) | (refine aw_condF (by simp +decide only [aop, abuiltin, aeval, aintBin, bin_int, aload_bump, SS, reduceIte, reduceCtorEq, f6, b5, faT1, b7]; first | done | exact rfl) ?_))
      refine arl_storeX (off := k * 3 + 1) rfl rfl rfl rfl rfl b2 szI rfl rfl rfl (by omega) ?_
      intro s12 hn12 hwf12 hE12 hg12 hD12
      have hw12 : WF s12 := hwf12 (by repeat (first | assumption | (refine WF.bump ?_ _)))
      replace hE12 : Keeps (fun h => h = g2) s11 s12 := Keeps.trans (Keeps.mono (G := fun _ => False) (show Ext s11 _ from (by repeat (first | exact Keeps.refl _ _ | (refine Keeps.bumpR ?_ _)))) (fun _ h => h.elim)) hE12
      have hP12 := oLit_set (hP.up hE11) b1 b2 b9 _ hE12 hg12
      repeat (first | (refine aw_seq ?_) | (refine aw_reg0 (by simp only [SZ, Nat.reduceAdd]; exact rfl) ?_) | (refine aw_reg (by decide +kernel) (by simp only [SZ, Nat.reduceAdd]; exact rfl) ?_) | (refine aw_regS (by decide +kernel) (by simp only [SZ, Nat.reduceAdd]; exact rfl) ?_) | (refine arl_nil ?_) | (refine aw_skip ?_) | (refine aw_block ?_) | (refine aw_exit ?_) | (refine aw_ret ?_) | (refine arl_cons rfl rfl (by simp +decide only [aop, abuiltin, aeval, aintBin, bin_int, aload_bump, SS, reduceIte, reduceCtorEq, f104, hwk]; exact rfl) (by first | rfl | assumption) rfl ?_) | (refine arl_none rfl rfl (by simp +decide only [aop, abuiltin, aeval, aintBin, bin_int, aload_bump, SS, reduceIte, reduceCtorEq, f104, hwk]; exact rfl) rfl rfl ?_) | (refine arl_off rfl rfl ?_) | (refine aw_condT (by simp +decide only [aop, abuiltin, aeval, aintBin, bin_int, aload_bump, SS, reduceIte, reduceCtorEq, f104, hwk]; first | done | exact rfl) ?_) | (refine aw_condF (by simp +decide only [aop, abuiltin, aeval, aintBin, bin_int, aload_bump, SS, reduceIte, reduceCtorEq, f104, hwk]; first | done | exact rfl) ?_))
      exact ⟨ls.length - (k + 1), by omega, hE.trans ((hE11.mono (fun _ h => h.elim)).trans ((hE12.mono (fun h hh => by rw [hh]; exact b3.2)).trans (Keeps.mono (G := fun _ => False) (by repeat (first | exact Keeps.refl _ _ | (refine Keeps.bumpR ?_ _))) (fun _ h => h.elim)))), k + 1, by omega, rfl, f0, f3, f4, f6, f8, f103, rfl, hP12.up (by repeat (first | exact Keeps.refl _ _ | (refine Keeps.bumpR ?_ _)))⟩
    · have hd : decide ((k : Int) < (ts.length : Int)) = false := decide_eq_false (by omega)
      repeat (first | (refine aw_seq ?_) | (refine aw_reg0 (by simp only [SZ, Nat.reduceAdd]; exact rfl) ?_) | (refine aw_reg (by decide +kernel) (by simp only [SZ, Nat.reduceAdd]; exact rfl) ?_) | (refine aw_regS (by decide +kernel) (by simp only [SZ, Nat.reduceAdd]; exact rfl) ?_) | (refine arl_nil ?_) | (refine aw_skip ?_) | (refine aw_block ?_) | (refine aw_exit ?_) | (refine aw_ret ?_) | (refine arl_cons rfl rfl (by simp +decide only [aop, abuiltin, aeval, aintBin, bin_int, aload_bump, SS, reduceIte, reduceCtorEq, f103, f104, hd]; exact rfl) (by first | rfl | assumption) rfl ?_) | (refine arl_none rfl rfl (by simp +decide only [aop, abuiltin, aeval, aintBin, bin_int, aload_bump, SS, reduceIte, reduceCtorEq, f103, f104, hd]; exact rfl) rfl rfl ?_) | (refine arl_off rfl rfl ?_) | (refine aw_condT (by simp +decide only [aop, abuiltin, aeval, aintBin, bin_int, aload_bump, SS, reduceIte, reduceCtorEq, f103, f104, hd]; first | done | exact rfl) ?_) | (refine aw_condF (by simp +decide only [aop, abuiltin, aeval, aintBin, bin_int, aload_bump, SS, reduceIte, reduceCtorEq, f103, f104, hd]; first | done | exact rfl) ?_))
      exact ⟨rfl, hE.trans (Keeps.mono (G := fun _ => False) (by repeat (first | exact Keeps.refl _ _ | (refine Keeps.bumpR ?_ _))) (fun _ h => h.elim)), f0, f3, f4, f8⟩
  · refine ⟨(Keeps.mono (G := fun _ => False) (by repeat (first | exact Keeps.refl _ _ | (refine Keeps.bumpR ?_ _))) (fun _ h => h.elim)), 0, by omega, rfl, f0, f3, f4, f6, f8, rfl, rfl, ?_⟩
    exact hP10.up (by repeat (first | exact Keeps.refl _ _ | (refine Keeps.bumpR ?_ _)))
  rintro e3 fr3 s11 ⟨hw11, hn11, rfl, hE11, f0, f3, f4, f8⟩
  have hQ11 : Keeps (fun g => s3.n ≤ g ∧ g < s4.n) s8 s11 := hQ10.trans hE11
  have hN11 := hQ11.n
  have hWa11 := hWa10.keep hE11 (fun g h h' => by omega)
  have hY11 := ((oTok_rd hY).up hS8).keep hQ11 (fun g h h' => by omega) (fun j g h h' => by have := hL2 j g h; omega)
  have hW11 := (hW3.rd.up ((hE4.trans hE5).trans hS8)).keep hQ11 (fun g h h' => by omega)
  have hU11 := (hU.up ((hE4.trans hE5).trans hS8)).keep hQ11 (fun g h h' => by omega)
  have hb11 := (hb.up (hS5.trans hS8)).keep hQ11 (fun g h h' => by have := hS3.n; omega)
  repeat (first | (refine aw_seq ?_) | (refine aw_reg0 (by simp only [SZ, Nat.reduceAdd]; exact rfl) ?_) | (refine aw_reg (by decide +kernel) (by simp only [SZ, Nat.reduceAdd]; exact rfl) ?_) | (refine aw_regS (by decide +kernel) (by simp only [SZ, Nat.reduceAdd]; exact rfl) ?_) | (refine arl_nil ?_) | (refine aw_skip ?_) | (refine aw_block ?_) | (refine aw_exit ?_) | (refine aw_ret ?_) | (refine arl_cons rfl rfl (by simp +decide only [aop, abuiltin, aeval, aintBin, bin_int, aload_bump, SS, reduceIte, reduceCtorEq, f8, f4]; exact rfl) (by first | rfl | assumption) rfl ?_) | (refine arl_none rfl rfl (by simp +decide only [aop, abuiltin, aeval, aintBin, bin_int, aload_bump, SS, reduceIte, reduceCtorEq, f8, f4]; exact rfl) rfl rfl ?_) | (refine arl_off rfl rfl ?_) | (refine aw_condT (by simp +decide only [aop, abuiltin, aeval, aintBin, bin_int, aload_bump, SS, reduceIte, reduceCtorEq, f8, f4]; first | done | exact rfl) ?_) | (refine aw_condF (by simp +decide only [aop, abuiltin, aeval, aintBin, bin_int, aload_bump, SS, reduceIte, reduceCtorEq, f8, f4]; first | done | exact rfl) ?_))
  refine arl_call rfl rfl rfl rfl rfl rfl ((alike_yes (by repeat (first | assumption | (refine WF.bump ?_ _))) (hY11.rd.up (by repeat (first | exact Keeps.refl _ _ | (refine Keeps.bumpR ?_ _)))) (hWa11.up (by repeat (first | exact Keeps.refl _ _ | (refine Keeps.bumpR ?_ _)))) (by omega)).wf (by repeat (first | assumption | (refine WF.bump ?_ _) | (refine WF.put ?_ (by simp only [n_bump, n_put, n_touch, n_kill] at *; omega) (by simp only [n_bump, n_put, n_touch, n_kill] at *; omega)))) |>.mono ?_)
  rintro r s12 ⟨hw12, hn12, hE12, rfl⟩
  refine ⟨by first | rfl | assumption, ?_⟩
  replace hE12 : Ext s11 s12 := Keeps.trans (by repeat (first | assumption | exact Keeps.refl _ _ | (refine Keeps.bumpR ?_ _) | (refine Keeps.put ?_ (by assumption) (by simp only [n_bump, n_put, n_touch, n_kill] at *; omega)))) hE12
  have hN12 := hE12.n
  repeat (first | (refine aw_seq ?_) | (refine aw_reg0 (by simp only [SZ, Nat.reduceAdd]; exact rfl) ?_) | (refine aw_reg (by decide +kernel) (by simp only [SZ, Nat.reduceAdd]; exact rfl) ?_) | (refine aw_regS (by decide +kernel) (by simp only [SZ, Nat.reduceAdd]; exact rfl) ?_) | (refine arl_nil ?_) | (refine aw_skip ?_) | (refine aw_block ?_) | (refine aw_exit ?_) | (refine aw_ret ?_) | (refine arl_cons rfl rfl (by simp +decide only [aop, abuiltin, aeval, aintBin, bin_int, aload_bump, SS, reduceIte, reduceCtorEq, f3, f0]; exact rfl) (by first | rfl | assumption) rfl ?_) | (refine arl_none rfl rfl (by simp +decide only [aop, abuiltin, aeval, aintBin, bin_int, aload_bump, SS, reduceIte, reduceCtorEq, f3, f0]; exact rfl) rfl rfl ?_) | (refine arl_off rfl rfl ?_) | (refine aw_condT (by simp +decide only [aop, abuiltin, aeval, aintBin, bin_int, aload_bump, SS, reduceIte, reduceCtorEq, f3, f0]; first | done | exact rfl) ?_) | (refine aw_condF (by simp +decide only [aop, abuiltin, aeval, aintBin, bin_int, aload_bump, SS, reduceIte, reduceCtorEq, f3, f0]; first | done | exact rfl) ?_))
  refine arl_call rfl rfl rfl rfl rfl rfl ((intact_yes (by repeat (first | assumption | (refine WF.bump ?_ _))) ((hW11.up hE12).up (by repeat (first | exact Keeps.refl _ _ | (refine Keeps.bumpR ?_ _)))) ((hb11.up hE12).up (by repeat (first | exact Keeps.refl _ _ | (refine Keeps.bumpR ?_ _)))) (by omega)).wf (by repeat (first | assumption | (refine WF.bump ?_ _) | (refine WF.put ?_ (by simp only [n_bump, n_put, n_touch, n_kill] at *; omega) (by simp only [n_bump, n_put, n_touch, n_kill] at *; omega)))) |>.mono ?_)
  rintro r s13 ⟨hw13, hn13, hE13, rfl⟩
  refine ⟨by first | rfl | assumption, ?_⟩
  replace hE13 : Ext s12 s13 := Keeps.trans (by repeat (first | assumption | exact Keeps.refl _ _ | (refine Keeps.bumpR ?_ _) | (refine Keeps.put ?_ (by assumption) (by simp only [n_bump, n_put, n_touch, n_kill] at *; omega)))) hE13
  have hN13 := hE13.n
  repeat (first | (refine aw_seq ?_) | (refine aw_reg0 (by simp only [SZ, Nat.reduceAdd]; exact rfl) ?_) | (refine aw_reg (by decide +kernel) (by simp only [SZ, Nat.reduceAdd]; exact rfl) ?_) | (refine aw_regS (by decide +kernel) (by simp only [SZ, Nat.reduceAdd]; exact rfl) ?_) | (refine arl_nil ?_) | (refine aw_skip ?_) | (refine aw_block ?_) | (refine aw_exit ?_) | (refine aw_ret ?_) | (refine arl_cons rfl rfl (by simp +decide only [aop, abuiltin, aeval, aintBin, bin_int, aload_bump, SS, reduceIte, reduceCtorEq, f3, f0, hln, hcut]; exact rfl) (by first | rfl | assumption) rfl ?_) | (refine arl_none rfl rfl (by simp +decide only [aop, abuiltin, aeval, aintBin, bin_int, aload_bump, SS, reduceIte, reduceCtorEq, f3, f0, hln, hcut]; exact rfl) rfl rfl ?_) | (refine arl_off rfl rfl ?_) | (refine aw_condT (by simp +decide only [aop, abuiltin, aeval, aintBin, bin_int, aload_bump, SS, reduceIte, reduceCtorEq, f3, f0, hln, hcut]; first | done | exact rfl) ?_) | (refine aw_condF (by simp +decide only [aop, abuiltin, aeval, aintBin, bin_int, aload_bump, SS, reduceIte, reduceCtorEq, f3, f0, hln, hcut]; first | done | exact rfl) ?_))
  refine arl_call rfl rfl rfl rfl rfl rfl ((parse_ok (by repeat (first | assumption | (refine WF.bump ?_ _))) ((hU11.up (hE12.trans hE13)).up (by repeat (first | exact Keeps.refl _ _ | (refine Keeps.bumpR ?_ _)))) (by omega) hby).wf (by repeat (first | assumption | (refine WF.bump ?_ _) | (refine WF.put ?_ (by simp only [n_bump, n_put, n_touch, n_kill] at *; omega) (by simp only [n_bump, n_put, n_touch, n_kill] at *; omega)))) |>.mono ?_)
  rintro r s14 ⟨hw14, hn14, hE14, z, L3, rfl, hzs, hZ, hL3, hLd3⟩
  refine ⟨by first | rfl | assumption, ?_⟩
  replace hE14 : Ext s13 s14 := Keeps.trans (by repeat (first | assumption | exact Keeps.refl _ _ | (refine Keeps.bumpR ?_ _) | (refine Keeps.put ?_ (by assumption) (by simp only [n_bump, n_put, n_touch, n_kill] at *; omega)))) hE14
  have hN14 := hE14.n
  rw [hps] at hZ ⊢
  simp only at hZ ⊢
  repeat (first | (refine aw_seq ?_) | (refine aw_reg0 (by simp only [SZ, Nat.reduceAdd]; exact rfl) ?_) | (refine aw_reg (by decide +kernel) (by simp only [SZ, Nat.reduceAdd]; exact rfl) ?_) | (refine aw_regS (by decide +kernel) (by simp only [SZ, Nat.reduceAdd]; exact rfl) ?_) | (refine arl_nil ?_) | (refine aw_skip ?_) | (refine aw_block ?_) | (refine aw_exit ?_) | (refine aw_ret ?_) | (refine arl_cons rfl rfl (by simp +decide only [aop, abuiltin, aeval, aintBin, bin_int, aload_bump, SS, reduceIte, reduceCtorEq, f4]; exact rfl) (by first | rfl | assumption) rfl ?_) | (refine arl_none rfl rfl (by simp +decide only [aop, abuiltin, aeval, aintBin, bin_int, aload_bump, SS, reduceIte, reduceCtorEq, f4]; exact rfl) rfl rfl ?_) | (refine arl_off rfl rfl ?_) | (refine aw_condT (by simp +decide only [aop, abuiltin, aeval, aintBin, bin_int, aload_bump, SS, reduceIte, reduceCtorEq, f4]; first | done | exact rfl) ?_) | (refine aw_condF (by simp +decide only [aop, abuiltin, aeval, aintBin, bin_int, aload_bump, SS, reduceIte, reduceCtorEq, f4]; first | done | exact rfl) ?_))
  refine arl_call rfl rfl rfl rfl rfl rfl ((alike_yes (by repeat (first | assumption | (refine WF.bump ?_ _))) ((oTok_rd hZ).rd.up (by repeat (first | exact Keeps.refl _ _ | (refine Keeps.bumpR ?_ _)))) ((hWa11.up ((hE12.trans hE13).trans hE14)).up (by repeat (first | exact Keeps.refl _ _ | (refine Keeps.bumpR ?_ _)))) (by omega)).wf (by repeat (first | assumption | (refine WF.bump ?_ _) | (refine WF.put ?_ (by simp only [n_bump, n_put, n_touch, n_kill] at *; omega) (by simp only [n_bump, n_put, n_touch, n_kill] at *; omega)))) |>.mono ?_)
  rintro r s15 ⟨hw15, hn15, hE15, rfl⟩
  refine ⟨by first | rfl | assumption, ?_⟩
  replace hE15 : Ext s14 s15 := Keeps.trans (by repeat (first | assumption | exact Keeps.refl _ _ | (refine Keeps.bumpR ?_ _) | (refine Keeps.put ?_ (by assumption) (by simp only [n_bump, n_put, n_touch, n_kill] at *; omega)))) hE15
  have hN15 := hE15.n
  repeat (first | (refine aw_seq ?_) | (refine aw_reg0 (by simp only [SZ, Nat.reduceAdd]; exact rfl) ?_) | (refine aw_reg (by decide +kernel) (by simp only [SZ, Nat.reduceAdd]; exact rfl) ?_) | (refine aw_regS (by decide +kernel) (by simp only [SZ, Nat.reduceAdd]; exact rfl) ?_) | (refine arl_nil ?_) | (refine aw_skip ?_) | (refine aw_block ?_) | (refine aw_exit ?_) | (refine aw_ret ?_) | (refine arl_cons rfl rfl (by simp +decide only [aop, abuiltin, aeval, aintBin, bin_int, aload_bump, SS, reduceIte, reduceCtorEq]; exact rfl) (by first | rfl | assumption) rfl ?_) | (refine arl_none rfl rfl (by simp +decide only [aop, abuiltin, aeval, aintBin, bin_int, aload_bump, SS, reduceIte, reduceCtorEq]; exact rfl) rfl rfl ?_) | (refine arl_off rfl rfl ?_) | (refine aw_condT (by simp +decide only [aop, abuiltin, aeval, aintBin, bin_int, aload_bump, SS, reduceIte, reduceCtorEq]; first | done | exact rfl) ?_) | (refine aw_condF (by simp +decide only [aop, abuiltin, aeval, aintBin, bin_int, aload_bump, SS, reduceIte, reduceCtorEq]; first | done | exact rfl) ?_))
  exact ⟨.inr rfl, _, rfl, rfl⟩
theorem TokenParses_small {st : St} (hw : WF st) {v : AV} {b : List Int} (h : RdL st (fun _ => True) 1 (fun cs n => cs = [.pl (.int .u8 n)]) v b) (g : ∀ x ∈ b, (Lit.int .u8 x).wf = true) (hb : (b.map fun _ => 1).sum + 1 ≤ 1048576) :
    ACalls Try.prog 6 [v] st (fun r s => r = .pl (.bool true)) := by
  rw [sum_1] at hb
  exact parses_ok hw (RdL.bytes h) (by omega) (fun x hx => wfu8 (g x hx))
end Go.Proofs.Ytjgdagiffmpkhaa.Ra
