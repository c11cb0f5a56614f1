/- Tokens: how they read; token.copies, token.ill, token.bound. -/
import Derived.Test.YthjfncppiffnmaaDoorRv
namespace Go.Proofs.YthjfncppiffnmaaDoor.Ra
open Go Go.RowKit
set_option linter.unusedVariables false
set_option linter.unusedSimpArgs false
set_option maxRecDepth 10000
abbrev Tok : Type := List Int × Int × Int
abbrev TK : TypeId := 35
def tokK : EK Tok where
  s := 3
  R := fun st K cs t => ∃ c, cs = [c, i64 t.2.1, i64 t.2.2] ∧ RdB st K c t.1
  keep := fun hk hd c x ⟨v, h1, h2⟩ => ⟨v, h1, h2.keep hk hd⟩
  mono := fun hk c x ⟨v, h1, h2⟩ => ⟨v, h1, h2.mono hk⟩
  lt := fun hw c x ⟨v, h1, h2⟩ => ⟨v, h1, h2.lt hw⟩
  one := fun c x ⟨v, h1, h2⟩ => by subst h1; simp [h2.cell.2]; exact ⟨rfl, rfl⟩
  len := fun c x ⟨v, h1, h2⟩ => by subst h1; rfl
def oTokK : EK Tok where
  s := 3
  R := fun st K cs t => ∃ c, cs = [c, i64 t.2.1, i64 t.2.2] ∧ OwB st K c t.1
  keep := fun hk hd c x ⟨v, h1, h2⟩ => ⟨v, h1, h2.keep hk hd⟩
  mono := fun hk c x ⟨v, h1, h2⟩ => ⟨v, h1, h2.mono hk⟩
  lt := fun hw c x ⟨v, h1, h2⟩ => ⟨v, h1, h2.lt hw⟩
  one := fun c x ⟨v, h1, h2⟩ => by subst h1; simp [h2.rd.cell.2]; exact ⟨rfl, rfl⟩
  len := fun c x ⟨v, h1, h2⟩ => by subst h1; rfl
theorem oTok_rd {st : St} {K : Nat → Prop} {L : Nat → Nat → Prop} {e : TypeId} {v : AV} {ps : List Tok} (h : OwX oTokK st K L e v ps) : OwX tokK st K L e v ps := by
  rcases h with h | ⟨i, g, cs, h1, h2, h3, h4, h5⟩
  · exact .inl h
  · refine .inr ⟨i, g, cs, h1, h2, h3, h4, fun j x hx => ?_⟩
    obtain ⟨c, k1, k2⟩ := h5 j x hx
    exact ⟨c, k1, k2.rd⟩
theorem TTK : TF Tryd.prog 28 TK tokK.s 40 := TF.of (by kernel_rfl) (by kernel_rfl) (by decide)
theorem szTK : szOf Tryd.prog TK = some 3 := by kernel_rfl
theorem zTK : zcells Tryd.prog TK = some [.pl (.slice none 0 0), i64 0, i64 0] := by kernel_rfl
theorem faT0 (i off : Nat) : afieldAddr Tryd.prog TK (.ptr i off) 0 = some (.ptr i off) := by kernel_rfl
theorem faT1 (i off : Nat) : afieldAddr Tryd.prog TK (.ptr i off) 1 = some (.ptr i (off + 1)) := by kernel_rfl
theorem faT2 (i off : Nat) : afieldAddr Tryd.prog TK (.ptr i off) 2 = some (.ptr i (off + 2)) := by kernel_rfl
theorem tkLd {s : St} {id g : Nat} {d n : Int} {c : AV} (h : s.get id = some ⟨[c, i64 d, i64 n], TK, true, g⟩) :
    aload Tryd.prog s 22 (.ptr id 0) = some c ∧ aload Tryd.prog s 3 (.ptr id (0 + 1)) = some (i64 d) ∧ aload Tryd.prog s 3 (.ptr id (0 + 2)) = some (i64 n) ∧ aload Tryd.prog s TK (.ptr id 0) = some (.agg [c, i64 d, i64 n]) :=
  ⟨ldB h rfl, ldI h rfl, ldI h rfl, load_agg Tryd.underlying35 rfl szTK h (by simp)⟩
theorem tk_load {st : St} {K : Nat → Prop} {v : AV} {os : List Tok} (h : RdE tokK st K v os) (j : Nat) (hj : j < os.length) :
    ∃ p c, aindexAddr Tryd.prog 28 v (i64 j) = some p ∧ p.solid = true ∧ aload Tryd.prog st TK p = some (.agg [c, i64 os[j].2.1, i64 os[j].2.2]) ∧ RdB st K c os[j].1 ∧ c.solid = true ∧ c.one = true := by
  obtain ⟨p, cs, h1, h2, h3, c, rfl, h5⟩ := h.load TTK Tryd.underlying35 rfl .i64 j hj
  exact ⟨p, c, h1, h2, h3, h5, h5.solid, h5.cell.2⟩
def cop (t : Tok) : Bool := decide (t.2.1 ≠ 0 ∨ t.2.2 ≠ 0)
def ill (t : Tok) : Bool := if cop t = true then decide (0 < t.1.length ∨ t.2.1 < 1 ∨ t.2.1 > 4096 ∨ t.2.2 < 4 ∨ t.2.2 > 131) else decide (t.1.length < 1 ∨ t.1.length > 128)
theorem bne_t {a b : Int} (h : a ≠ b) : (a != b) = true := by simp [h]
theorem bne_f {a b : Int} (h : a = b) : (a != b) = false := by simp [h]
theorem copies_ok {st : St} (hw : WF st) {c : AV} (hc : c.solid = true) (t : Tok) :
    ACalls Tryd.prog 24 [.agg [c, i64 t.2.1, i64 t.2.2]] st (fun r s => Ext st s ∧ r = .pl (.bool (cop t))) := by
  refine acalls_of Tryd.func24 rfl (by kernel_rfl) rfl ?_
  repeat (first | (refine aw_seq ?_) | (refine aw_reg0 (by simp only [SZ, Nat.reduceAdd]; exact rfl) ?_) | (refine aw_reg (by decide +kernel) (by simp only [SZ, Nat.reduceAdd]; exact rfl) ?_) | (refine aw_regS (by decide +kernel) (by simp only [SZ, Nat.reduceAdd]; exact rfl) ?_) | (refine arl_nil ?_) | (refine aw_skip ?_) | (refine aw_block ?_) | (refine aw_exit ?_) | (refine aw_ret ?_))
  refine arl_box rfl rfl rfl szTK rfl rfl rfl (fresh hw (Nat.le_add_right _ _)) ?_
  intro s0 hn0 hwf0 hE0 hg0 hD0
  replace hE0 : Ext st s0 := Keeps.trans (show Ext st _ from (by repeat (first | exact Keeps.refl _ _ | (refine Keeps.bumpR ?_ _)))) hE0
  obtain ⟨o0, o1, o2, o3⟩ := tkLd hg0
  by_cases h1 : t.2.1 = 0
  · have e1 := bne_f h1
    by_cases h2 : t.2.2 = 0
    · have e2 := bne_f h2
      have e : cop t = false := by simp [cop, h1, h2]
      repeat (first | (refine aw_seq ?_) | (refine aw_reg0 (by simp only [SZ, Nat.reduceAdd]; exact rfl) ?_) | (refine aw_reg (by decide +kernel) (by simp only [SZ, Nat.reduceAdd]; exact rfl) ?_) | (refine aw_regS (by decide +kernel) (by simp only [SZ, Nat.reduceAdd]; exact rfl) ?_) | (refine arl_nil ?_) | (refine aw_skip ?_) | (refine aw_block ?_) | (refine aw_exit ?_) | (refine aw_ret ?_) | (refine arl_cons rfl rfl (by simp +decide only [aop, abuiltin, aeval, aintBin, bin_int, aload_bump, SS, reduceIte, reduceCtorEq, faT1, faT2, o1, o2, e1, e2]; exact rfl) (by first | rfl | with_reducible assumption) rfl ?_) | (refine arl_none rfl rfl (by simp +decide only [aop, abuiltin, aeval, aintBin, bin_int, aload_bump, SS, reduceIte, reduceCtorEq, faT1, faT2, o1, o2, e1, e2]; exact rfl) rfl rfl ?_) | (refine arl_off rfl rfl ?_) | (refine aw_condT (by simp +decide only [aop, abuiltin, aeval, aintBin, bin_int, aload_bump, SS, reduceIte, reduceCtorEq, faT1, faT2, o1, o2, e1, e2]; first | done | exact rfl) ?_) | (refine aw_condF (by simp +decide only [aop, abuiltin, aeval, aintBin, bin_int, aload_bump, SS, reduceIte, reduceCtorEq, faT1, faT2, o1, o2, e1, e2]; first | done | exact rfl) ?_))
      exact ⟨.inr rfl, _, rfl, hE0.trans (by repeat (first | exact Keeps.refl _ _ | (refine Keeps.bumpR ?_ _))), by rw [e]; rfl⟩
    · have e2 := bne_t h2
      have e : cop t = true := by simp [cop, h2]
      repeat (first | (refine aw_seq ?_) | (refine aw_reg0 (by simp only [SZ, Nat.reduceAdd]; exact rfl) ?_) | (refine aw_reg (by decide +kernel) (by simp only [SZ, Nat.reduceAdd]; exact rfl) ?_) | (refine aw_regS (by decide +kernel) (by simp only [SZ, Nat.reduceAdd]; exact rfl) ?_) | (refine arl_nil ?_) | (refine aw_skip ?_) | (refine aw_block ?_) | (refine aw_exit ?_) | (refine aw_ret ?_) | (refine arl_cons rfl rfl (by simp +decide only [aop, abuiltin, aeval, aintBin, bin_int, aload_bump, SS, reduceIte, reduceCtorEq, faT1, faT2, o1, o2, e1, e2]; exact rfl) (by first | rfl | with_reducible assumption) rfl ?_) | (refine arl_none rfl rfl (by simp +decide only [aop, abuiltin, aeval, aintBin, bin_int, aload_bump, SS, reduceIte, reduceCtorEq, faT1, faT2, o1, o2, e1, e2]; exact rfl) rfl rfl ?_) | (refine arl_off rfl rfl ?_) | (refine aw_condT (by simp +decide only [aop, abuiltin, aeval, aintBin, bin_int, aload_bump, SS, reduceIte, reduceCtorEq, faT1, faT2, o1, o2, e1, e2]; first | done | exact rfl) ?_) | (refine aw_condF (by simp +decide only [aop, abuiltin, aeval, aintBin, bin_int, aload_bump, SS, reduceIte, reduceCtorEq, faT1, faT2, o1, o2, e1, e2]; first | done | exact rfl) ?_))
      exact ⟨.inr rfl, _, rfl, hE0.trans (by repeat (first | exact Keeps.refl _ _ | (refine Keeps.bumpR ?_ _))), by rw [e]; rfl⟩
  · have e1 := bne_t h1
    have e : cop t = true := by simp [cop, h1]
    repeat (first | (refine aw_seq ?_) | (refine aw_reg0 (by simp only [SZ, Nat.reduceAdd]; exact rfl) ?_) | (refine aw_reg (by decide +kernel) (by simp only [SZ, Nat.reduceAdd]; exact rfl) ?_) | (refine aw_regS (by decide +kernel) (by simp only [SZ, Nat.reduceAdd]; exact rfl) ?_) | (refine arl_nil ?_) | (refine aw_skip ?_) | (refine aw_block ?_) | (refine aw_exit ?_) | (refine aw_ret ?_) | (refine arl_cons rfl rfl (by simp +decide only [aop, abuiltin, aeval, aintBin, bin_int, aload_bump, SS, reduceIte, reduceCtorEq, faT1, faT2, o1, o2, e1]; exact rfl) (by first | rfl | with_reducible assumption) rfl ?_) | (refine arl_none rfl rfl (by simp +decide only [aop, abuiltin, aeval, aintBin, bin_int, aload_bump, SS, reduceIte, reduceCtorEq, faT1, faT2, o1, o2, e1]; exact rfl) rfl rfl ?_) | (refine arl_off rfl rfl ?_) | (refine aw_condT (by simp +decide only [aop, abuiltin, aeval, aintBin, bin_int, aload_bump, SS, reduceIte, reduceCtorEq, faT1, faT2, o1, o2, e1]; first | done | exact rfl) ?_) | (refine aw_condF (by simp +decide only [aop, abuiltin, aeval, aintBin, bin_int, aload_bump, SS, reduceIte, reduceCtorEq, faT1, faT2, o1, o2, e1]; first | done | exact rfl) ?_))
    exact ⟨.inr rfl, _, rfl, hE0.trans (by repeat (first | exact Keeps.refl _ _ | (refine Keeps.bumpR ?_ _))), by rw [e]; rfl⟩
theorem ill_ok {st : St} (hw : WF st) {K : Nat → Prop} {c : AV} (t : Tok) (hc : RdB st K c t.1) :
    ACalls Tryd.prog 23 [.agg [c, i64 t.2.1, i64 t.2.2]] st (fun r s => Ext st s ∧ r = .pl (.bool (ill t))) := by
  have hcs := hc.solid
  have hln := hc.len
  refine acalls_of Tryd.func23 rfl (by kernel_rfl) rfl ?_
  repeat (first | (refine aw_seq ?_) | (refine aw_reg0 (by simp only [SZ, Nat.reduceAdd]; exact rfl) ?_) | (refine aw_reg (by decide +kernel) (by simp only [SZ, Nat.reduceAdd]; exact rfl) ?_) | (refine aw_regS (by decide +kernel) (by simp only [SZ, Nat.reduceAdd]; exact rfl) ?_) | (refine arl_nil ?_) | (refine aw_skip ?_) | (refine aw_block ?_) | (refine aw_exit ?_) | (refine aw_ret ?_))
  refine arl_box rfl rfl rfl szTK rfl rfl rfl (fresh hw (Nat.le_add_right _ _)) ?_
  intro s0 hn0 hwf0 hE0 hg0 hD0
  have hw0 : WF s0 := hwf0 (by repeat (first | assumption | (refine WF.bump ?_ _) | (refine WF.put ?_ (by simp only [n_bump, n_put, n_touch, n_kill] at *; omega) (by simp only [n_bump, n_put, n_touch, n_kill] at *; omega)))) (by simp only [n_bump, n_put, n_touch, n_kill] at *; omega)
  replace hE0 : Ext st s0 := Keeps.trans (show Ext st _ from (by repeat (first | exact Keeps.refl _ _ | (refine Keeps.bumpR ?_ _)))) hE0
  obtain ⟨o0, o1, o2, o3⟩ := tkLd hg0
  repeat (first | (refine aw_seq ?_) | (refine aw_reg0 (by simp only [SZ, Nat.reduceAdd]; exact rfl) ?_) | (refine aw_reg (by decide +kernel) (by simp only [SZ, Nat.reduceAdd]; exact rfl) ?_) | (refine aw_regS (by decide +kernel) (by simp only [SZ, Nat.reduceAdd]; exact rfl) ?_) | (refine arl_nil ?_) | (refine aw_skip ?_) | (refine aw_block ?_) | (refine aw_exit ?_) | (refine aw_ret ?_) | (refine arl_cons rfl rfl (by simp +decide only [aop, abuiltin, aeval, aintBin, bin_int, aload_bump, SS, reduceIte, reduceCtorEq, o3]; exact rfl) (by first | rfl | with_reducible assumption) rfl ?_) | (refine arl_none rfl rfl (by simp +decide only [aop, abuiltin, aeval, aintBin, bin_int, aload_bump, SS, reduceIte, reduceCtorEq, o3]; exact rfl) rfl rfl ?_) | (refine arl_off rfl rfl ?_) | (refine aw_condT (by simp +decide only [aop, abuiltin, aeval, aintBin, bin_int, aload_bump, SS, reduceIte, reduceCtorEq, o3]; first | done | exact rfl) ?_) | (refine aw_condF (by simp +decide only [aop, abuiltin, aeval, aintBin, bin_int, aload_bump, SS, reduceIte, reduceCtorEq, o3]; first | done | exact rfl) ?_))
  refine arl_call rfl rfl rfl rfl rfl rfl ((copies_ok (by repeat (first | assumption | (refine WF.bump ?_ _))) hcs t).wf (by repeat (first | assumption | (refine WF.bump ?_ _) | (refine WF.put ?_ (by simp only [n_bump, n_put, n_touch, n_kill] at *; omega) (by simp only [n_bump, n_put, n_touch, n_kill] at *; omega)))) |>.mono ?_)
  rintro r s1 ⟨hw1, hn1, hE1, rfl⟩
  refine ⟨by first | rfl | with_reducible assumption, ?_⟩
  replace hE1 : Ext s0 s1 := Keeps.trans (by repeat (first | assumption | exact Keeps.refl _ _ | (refine Keeps.bumpR ?_ _) | (refine Keeps.put ?_ (by assumption) (by simp only [n_bump, n_put, n_touch, n_kill] at *; omega)))) hE1
  have hN1 := hE1.n
  replace hE1' := hE0.trans hE1
  obtain ⟨o0, o1, o2, o3⟩ := tkLd (hE1.get _ _ hg0 (fun h => h))
  by_cases hcp : cop t = true
  · rw [hcp]
    by_cases h1 : 0 < t.1.length
    · have d1 : decide ((t.1.length : Int) > 0) = true := decide_eq_true (by omega)
      have e : ill t = true := by unfold ill; rw [if_pos hcp]; exact decide_eq_true (by omega)
      repeat (first | (refine aw_seq ?_) | (refine aw_reg0 (by simp only [SZ, Nat.reduceAdd]; exact rfl) ?_) | (refine aw_reg (by decide +kernel) (by simp only [SZ, Nat.reduceAdd]; exact rfl) ?_) | (refine aw_regS (by decide +kernel) (by simp only [SZ, Nat.reduceAdd]; exact rfl) ?_) | (refine arl_nil ?_) | (refine aw_skip ?_) | (refine aw_block ?_) | (refine aw_exit ?_) | (refine aw_ret ?_) | (refine arl_cons rfl rfl (by simp +decide only [aop, abuiltin, aeval, aintBin, bin_int, aload_bump, SS, reduceIte, reduceCtorEq, faT0, faT1, faT2, o0, o1, o2, hln, d1]; exact rfl) (by first | rfl | with_reducible assumption) rfl ?_) | (refine arl_none rfl rfl (by simp +decide only [aop, abuiltin, aeval, aintBin, bin_int, aload_bump, SS, reduceIte, reduceCtorEq, faT0, faT1, faT2, o0, o1, o2, hln, d1]; exact rfl) rfl rfl ?_) | (refine arl_off rfl rfl ?_) | (refine aw_condT (by simp +decide only [aop, abuiltin, aeval, aintBin, bin_int, aload_bump, SS, reduceIte, reduceCtorEq, faT0, faT1, faT2, o0, o1, o2, hln, d1]; first | done | exact rfl) ?_) | (refine aw_condF (by simp +decide only [aop, abuiltin, aeval, aintBin, bin_int, aload_bump, SS, reduceIte, reduceCtorEq, faT0, faT1, faT2, o0, o1, o2, hln, d1]; first | done | exact rfl) ?_))
      exact ⟨.inr rfl, _, rfl, hE1'.trans (by repeat (first | exact Keeps.refl _ _ | (refine Keeps.bumpR ?_ _))), by rw [e]; rfl⟩
    · have d1 : decide ((t.1.length : Int) > 0) = false := decide_eq_false (by omega)
      by_cases h2 : t.2.1 < 1
      · have d2 := decide_eq_true h2
        have e : ill t = true := by unfold ill; rw [if_pos hcp]; exact decide_eq_true (by omega)
        repeat (first | (refine aw_seq ?_) | (refine aw_reg0 (by simp only [SZ, Nat.reduceAdd]; exact rfl) ?_) | (refine aw_reg (by decide +kernel) (by simp only [SZ, Nat.reduceAdd]; exact rfl) ?_) | (refine aw_regS (by decide +kernel) (by simp only [SZ, Nat.reduceAdd]; exact rfl) ?_) | (refine arl_nil ?_) | (refine aw_skip ?_) | (refine aw_block ?_) | (refine aw_exit ?_) | (refine aw_ret ?_) | (refine arl_cons rfl rfl (by simp +decide only [aop, abuiltin, aeval, aintBin, bin_int, aload_bump, SS, reduceIte, reduceCtorEq, faT0, faT1, faT2, o0, o1, o2, hln, d1, d2]; exact rfl) (by first | rfl | with_reducible assumption) rfl ?_) | (refine arl_none rfl rfl (by simp +decide only [aop, abuiltin, aeval, aintBin, bin_int, aload_bump, SS, reduceIte, reduceCtorEq, faT0, faT1, faT2, o0, o1, o2, hln, d1, d2]; exact rfl) rfl rfl ?_) | (refine arl_off rfl rfl ?_) | (refine aw_condT (by simp +decide only [aop, abuiltin, aeval, aintBin, bin_int, aload_bump, SS, reduceIte, reduceCtorEq, faT0, faT1, faT2, o0, o1, o2, hln, d1, d2]; first | done | exact rfl) ?_) | (refine aw_condF (by simp +decide only [aop, abuiltin, aeval, aintBin, bin_int, aload_bump, SS, reduceIte, reduceCtorEq, faT0, faT1, faT2, o0, o1, o2, hln, d1, d2]; first | done | exact rfl) ?_))
        exact ⟨.inr rfl, _, rfl, hE1'.trans (by repeat (first | exact Keeps.refl _ _ | (refine Keeps.bumpR ?_ _))), by rw [e]; rfl⟩
      · have d2 := decide_eq_false h2
        by_cases h3 : t.2.1 > 4096
        · have d3 := decide_eq_true h3
          have e : ill t = true := by unfold ill; rw [if_pos hcp]; exact decide_eq_true (by omega)
          repeat (first | (refine aw_seq ?_) | (refine aw_reg0 (by simp only [SZ, Nat.reduceAdd]; exact rfl) ?_) | (refine aw_reg (by decide +kernel) (by simp only [SZ, Nat.reduceAdd]; exact rfl) ?_) | (refine aw_regS (by decide +kernel) (by simp only [SZ, Nat.reduceAdd]; exact rfl) ?_) | (refine arl_nil ?_) | (refine aw_skip ?_) | (refine aw_block ?_) | (refine aw_exit ?_) | (refine aw_ret ?_) | (refine arl_cons rfl rfl (by simp +decide only [aop, abuiltin, aeval, aintBin, bin_int, aload_bump, SS, reduceIte, reduceCtorEq, faT0, faT1, faT2, o0, o1, o2, hln, d1, d2, d3]; exact rfl) (by first | rfl | with_reducible assumption) rfl ?_) | (refine arl_none rfl rfl (by simp +decide only [aop, abuiltin, aeval, aintBin, bin_int, aload_bump, SS, reduceIte, reduceCtorEq, faT0, faT1, faT2, o0, o1, o2, hln, d1, d2, d3]; exact rfl) rfl rfl ?_) | (refine arl_off rfl rfl ?_) | (refine aw_condT (by simp +decide only [aop, abuiltin, aeval, aintBin, bin_int, aload_bump, SS, reduceIte, reduceCtorEq, faT0, faT1, faT2, o0, o1, o2, hln, d1, d2, d3]; first | done | exact rfl) ?_) | (refine aw_condF (by simp +decide only [aop, abuiltin, aeval, aintBin, bin_int, aload_bump, SS, reduceIte, reduceCtorEq, faT0, faT1, faT2, o0, o1, o2, hln, d1, d2, d3]; first | done | exact rfl) ?_))
          exact ⟨.inr rfl, _, rfl, hE1'.trans (by repeat (first | exact Keeps.refl _ _ | (refine Keeps.bumpR ?_ _))), by rw [e]; rfl⟩
        · have d3 := decide_eq_false h3
          by_cases h4 : t.2.2 < 4
          · have d4 := decide_eq_true h4
            have e : ill t = true := by unfold ill; rw [if_pos hcp]; exact decide_eq_true (by omega)
            repeat (first | (refine aw_seq ?_) | (refine aw_reg0 (by simp only [SZ, Nat.reduceAdd]; exact rfl) ?_) | (refine aw_reg (by decide +kernel) (by simp only [SZ, Nat.reduceAdd]; exact rfl) ?_) | (refine aw_regS (by decide +kernel) (by simp only [SZ, Nat.reduceAdd]; exact rfl) ?_) | (refine arl_nil ?_) | (refine aw_skip ?_) | (refine aw_block ?_) | (refine aw_exit ?_) | (refine aw_ret ?_) | (refine arl_cons rfl rfl (by simp +decide only [aop, abuiltin, aeval, aintBin, bin_int, aload_bump, SS, reduceIte, reduceCtorEq, faT0, faT1, faT2, o0, o1, o2, hln, d1, d2, d3, d4]; exact rfl) (by first | rfl | with_reducible assumption) rfl ?_) | (refine arl_none rfl rfl (by simp +decide only [aop, abuiltin, aeval, aintBin, bin_int, aload_bump, SS, reduceIte, reduceCtorEq, faT0, faT1, faT2, o0, o1, o2, hln, d1, d2, d3, d4]; exact rfl) rfl rfl ?_) | (refine arl_off rfl rfl ?_) | (refine aw_condT (by simp +decide only [aop, abuiltin, aeval, aintBin, bin_int, aload_bump, SS, reduceIte, reduceCtorEq, faT0, faT1, faT2, o0, o1, o2, hln, d1, d2, d3, d4]; first | done | exact rfl) ?_) | (refine aw_condF (by simp +decide only [aop, abuiltin, aeval, aintBin, bin_int, aload_bump, SS, reduceIte, reduceCtorEq, faT0, faT1, faT2, o0, o1, o2, hln, d1, d2, d3, d4]; first | done | exact rfl) ?_))
            exact ⟨.inr rfl, _, rfl, hE1'.trans (by repeat (first | exact Keeps.refl _ _ | (refine Keeps.bumpR ?_ _))), by rw [e]; rfl⟩
          · have d4 := decide_eq_false h4
            by_cases h5 : t.2.2 > 131
            · have d5 := decide_eq_true h5
              have e : ill t = true := by unfold ill; rw [if_pos hcp]; exact decide_eq_true (by omega)
              repeat (first | (refine aw_seq ?_) | (refine aw_reg0 (by simp only [SZ, Nat.reduceAdd]; exact rfl) ?_) | (refine aw_reg (by decide +kernel) (by simp only [SZ, Nat.reduceAdd]; exact rfl) ?_) | (refine aw_regS (by decide +kernel) (by simp only [SZ, Nat.reduceAdd]; exact rfl) ?_) | (refine arl_nil ?_) | (refine aw_skip ?_) | (refine aw_block ?_) | (refine aw_exit ?_) | (refine aw_ret ?_) | (refine arl_cons rfl rfl (by simp +decide only [aop, abuiltin, aeval, aintBin, bin_int, aload_bump, SS, reduceIte, reduceCtorEq, faT0, faT1, faT2, o0, o1, o2, hln, d1, d2, d3, d4, d5]; exact rfl) (by first | rfl | with_reducible assumption) rfl ?_) | (refine arl_none rfl rfl (by simp +decide only [aop, abuiltin, aeval, aintBin, bin_int, aload_bump, SS, reduceIte, reduceCtorEq, faT0, faT1, faT2, o0, o1, o2, hln, d1, d2, d3, d4, d5]; exact rfl) rfl rfl ?_) | (refine arl_off rfl rfl ?_) | (refine aw_condT (by simp +decide only [aop, abuiltin, aeval, aintBin, bin_int, aload_bump, SS, reduceIte, reduceCtorEq, faT0, faT1, faT2, o0, o1, o2, hln, d1, d2, d3, d4, d5]; first | done | exact rfl) ?_) | (refine aw_condF (by simp +decide only [aop, abuiltin, aeval, aintBin, bin_int, aload_bump, SS, reduceIte, reduceCtorEq, faT0, faT1, faT2, o0, o1, o2, hln, d1, d2, d3, d4, d5]; first | done | exact rfl) ?_))
              exact ⟨.inr rfl, _, rfl, hE1'.trans (by repeat (first | exact Keeps.refl _ _ | (refine Keeps.bumpR ?_ _))), by rw [e]; rfl⟩
            · have d5 := decide_eq_false h5
              have e : ill t = false := by unfold ill; rw [if_pos hcp]; exact decide_eq_false (by omega)
              repeat (first | (refine aw_seq ?_) | (refine aw_reg0 (by simp only [SZ, Nat.reduceAdd]; exact rfl) ?_) | (refine aw_reg (by decide +kernel) (by simp only [SZ, Nat.reduceAdd]; exact rfl) ?_) | (refine aw_regS (by decide +kernel) (by simp only [SZ, Nat.reduceAdd]; exact rfl) ?_) | (refine arl_nil ?_) | (refine aw_skip ?_) | (refine aw_block ?_) | (refine aw_exit ?_) | (refine aw_ret ?_) | (refine arl_cons rfl rfl (by simp +decide only [aop, abuiltin, aeval, aintBin, bin_int, aload_bump, SS, reduceIte, reduceCtorEq, faT0, faT1, faT2, o0, o1, o2, hln, d1, d2, d3, d4, d5]; exact rfl) (by first | rfl | with_reducible assumption) rfl ?_) | (refine arl_none rfl rfl (by simp +decide only [aop, abuiltin, aeval, aintBin, bin_int, aload_bump, SS, reduceIte, reduceCtorEq, faT0, faT1, faT2, o0, o1, o2, hln, d1, d2, d3, d4, d5]; exact rfl) rfl rfl ?_) | (refine arl_off rfl rfl ?_) | (refine aw_condT (by simp +decide only [aop, abuiltin, aeval, aintBin, bin_int, aload_bump, SS, reduceIte, reduceCtorEq, faT0, faT1, faT2, o0, o1, o2, hln, d1, d2, d3, d4, d5]; first | done | exact rfl) ?_) | (refine aw_condF (by simp +decide only [aop, abuiltin, aeval, aintBin, bin_int, aload_bump, SS, reduceIte, reduceCtorEq, faT0, faT1, faT2, o0, o1, o2, hln, d1, d2, d3, d4, d5]; first | done | exact rfl) ?_))
              exact ⟨.inr rfl, _, rfl, hE1'.trans (by repeat (first | exact Keeps.refl _ _ | (refine Keeps.bumpR ?_ _))), by rw [e]; rfl⟩
  · have hcf : cop t = false := by simpa using hcp
    rw [hcf]
    by_cases h1 : t.1.length < 1
    · have d1 : decide ((t.1.length : Int) < 1) = true := decide_eq_true (by omega)
      have e : ill t = true := by unfold ill; rw [if_neg hcp]; exact decide_eq_true (by omega)
      repeat (first | (refine aw_seq ?_) | (refine aw_reg0 (by simp only [SZ, Nat.reduceAdd]; exact rfl) ?_) | (refine aw_reg (by decide +kernel) (by simp only [SZ, Nat.reduceAdd]; exact rfl) ?_) | (refine aw_regS (by decide +kernel) (by simp only [SZ, Nat.reduceAdd]; exact rfl) ?_) | (refine arl_nil ?_) | (refine aw_skip ?_) | (refine aw_block ?_) | (refine aw_exit ?_) | (refine aw_ret ?_) | (refine arl_cons rfl rfl (by simp +decide only [aop, abuiltin, aeval, aintBin, bin_int, aload_bump, SS, reduceIte, reduceCtorEq, faT0, faT1, faT2, o0, o1, o2, hln, d1]; exact rfl) (by first | rfl | with_reducible assumption) rfl ?_) | (refine arl_none rfl rfl (by simp +decide only [aop, abuiltin, aeval, aintBin, bin_int, aload_bump, SS, reduceIte, reduceCtorEq, faT0, faT1, faT2, o0, o1, o2, hln, d1]; exact rfl) rfl rfl ?_) | (refine arl_off rfl rfl ?_) | (refine aw_condT (by simp +decide only [aop, abuiltin, aeval, aintBin, bin_int, aload_bump, SS, reduceIte, reduceCtorEq, faT0, faT1, faT2, o0, o1, o2, hln, d1]; first | done | exact rfl) ?_) | (refine aw_condF (by simp +decide only [aop, abuiltin, aeval, aintBin, bin_int, aload_bump, SS, reduceIte, reduceCtorEq, faT0, faT1, faT2, o0, o1, o2, hln, d1]; first | done | exact rfl) ?_))
      exact ⟨.inr rfl, _, rfl, hE1'.trans (by repeat (first | exact Keeps.refl _ _ | (refine Keeps.bumpR ?_ _))), by rw [e]; rfl⟩
    · have d1 : decide ((t.1.length : Int) < 1) = false := decide_eq_false (by omega)
      by_cases h2 : t.1.length > 128
      · have d2 : decide ((t.1.length : Int) > 128) = true := decide_eq_true (by omega)
        have e : ill t = true := by unfold ill; rw [if_neg hcp]; exact decide_eq_true (by omega)
        repeat (first | (refine aw_seq ?_) | (refine aw_reg0 (by simp only [SZ, Nat.reduceAdd]; exact rfl) ?_) | (refine aw_reg (by decide +kernel) (by simp only [SZ, Nat.reduceAdd]; exact rfl) ?_) | (refine aw_regS (by decide +kernel) (by simp only [SZ, Nat.reduceAdd]; exact rfl) ?_) | (refine arl_nil ?_) | (refine aw_skip ?_) | (refine aw_block ?_) | (refine aw_exit ?_) | (refine aw_ret ?_) | (refine arl_cons rfl rfl (by simp +decide only [aop, abuiltin, aeval, aintBin, bin_int, aload_bump, SS, reduceIte, reduceCtorEq, faT0, faT1, faT2, o0, o1, o2, hln, d1, d2]; exact rfl) (by first | rfl | with_reducible assumption) rfl ?_) | (refine arl_none rfl rfl (by simp +decide only [aop, abuiltin, aeval, aintBin, bin_int, aload_bump, SS, reduceIte, reduceCtorEq, faT0, faT1, faT2, o0, o1, o2, hln, d1, d2]; exact rfl) rfl rfl ?_) | (refine arl_off rfl rfl ?_) | (refine aw_condT (by simp +decide only [aop, abuiltin, aeval, aintBin, bin_int, aload_bump, SS, reduceIte, reduceCtorEq, faT0, faT1, faT2, o0, o1, o2, hln, d1, d2]; first | done | exact rfl) ?_) | (refine aw_condF (by simp +decide only [aop, abuiltin, aeval, aintBin, bin_int, aload_bump, SS, reduceIte, reduceCtorEq, faT0, faT1, faT2, o0, o1, o2, hln, d1, d2]; first | done | exact rfl) ?_))
        exact ⟨.inr rfl, _, rfl, hE1'.trans (by repeat (first | exact Keeps.refl _ _ | (refine Keeps.bumpR ?_ _))), by rw [e]; rfl⟩
      · have d2 : decide ((t.1.length : Int) > 128) = false := decide_eq_false (by omega)
        have e : ill t = false := by unfold ill; rw [if_neg hcp]; exact decide_eq_false (by omega)
        repeat (first | (refine aw_seq ?_) | (refine aw_reg0 (by simp only [SZ, Nat.reduceAdd]; exact rfl) ?_) | (refine aw_reg (by decide +kernel) (by simp only [SZ, Nat.reduceAdd]; exact rfl) ?_) | (refine aw_regS (by decide +kernel) (by simp only [SZ, Nat.reduceAdd]; exact rfl) ?_) | (refine arl_nil ?_) | (refine aw_skip ?_) | (refine aw_block ?_) | (refine aw_exit ?_) | (refine aw_ret ?_) | (refine arl_cons rfl rfl (by simp +decide only [aop, abuiltin, aeval, aintBin, bin_int, aload_bump, SS, reduceIte, reduceCtorEq, faT0, faT1, faT2, o0, o1, o2, hln, d1, d2]; exact rfl) (by first | rfl | with_reducible assumption) rfl ?_) | (refine arl_none rfl rfl (by simp +decide only [aop, abuiltin, aeval, aintBin, bin_int, aload_bump, SS, reduceIte, reduceCtorEq, faT0, faT1, faT2, o0, o1, o2, hln, d1, d2]; exact rfl) rfl rfl ?_) | (refine arl_off rfl rfl ?_) | (refine aw_condT (by simp +decide only [aop, abuiltin, aeval, aintBin, bin_int, aload_bump, SS, reduceIte, reduceCtorEq, faT0, faT1, faT2, o0, o1, o2, hln, d1, d2]; first | done | exact rfl) ?_) | (refine aw_condF (by simp +decide only [aop, abuiltin, aeval, aintBin, bin_int, aload_bump, SS, reduceIte, reduceCtorEq, faT0, faT1, faT2, o0, o1, o2, hln, d1, d2]; first | done | exact rfl) ?_))
        exact ⟨.inr rfl, _, rfl, hE1'.trans (by repeat (first | exact Keeps.refl _ _ | (refine Keeps.bumpR ?_ _))), by rw [e]; rfl⟩
/-- The bound that counts. -/
def bnd (m : Int) : Int := if m < 0 then 0 else if m > 32768 then 32768 else m
theorem bound_ok {st : St} (m : Int) : ACalls Tryd.prog 22 [i64 m] st (fun r s => Ext st s ∧ r = i64 (bnd m)) := by
  refine acalls_of Tryd.func22 rfl (by kernel_rfl) rfl ?_
  repeat (first | (refine aw_seq ?_) | (refine aw_reg0 (by simp only [SZ, Nat.reduceAdd]; exact rfl) ?_) | (refine aw_reg (by decide +kernel) (by simp only [SZ, Nat.reduceAdd]; exact rfl) ?_) | (refine aw_regS (by decide +kernel) (by simp only [SZ, Nat.reduceAdd]; exact rfl) ?_) | (refine arl_nil ?_) | (refine aw_skip ?_) | (refine aw_block ?_) | (refine aw_exit ?_) | (refine aw_ret ?_) | (refine arl_cons rfl rfl (by simp +decide only [aop, abuiltin, aeval, aintBin, bin_int, aload_bump, SS, reduceIte, reduceCtorEq, amax, amin]; exact rfl) (by first | rfl | with_reducible assumption) rfl ?_) | (refine arl_none rfl rfl (by simp +decide only [aop, abuiltin, aeval, aintBin, bin_int, aload_bump, SS, reduceIte, reduceCtorEq, amax, amin]; exact rfl) rfl rfl ?_) | (refine arl_off rfl rfl ?_) | (refine aw_condT (by simp +decide only [aop, abuiltin, aeval, aintBin, bin_int, aload_bump, SS, reduceIte, reduceCtorEq, amax, amin]; first | done | exact rfl) ?_) | (refine aw_condF (by simp +decide only [aop, abuiltin, aeval, aintBin, bin_int, aload_bump, SS, reduceIte, reduceCtorEq, amax, amin]; first | done | exact rfl) ?_))
  refine ⟨.inr rfl, _, rfl, (by repeat (first | exact Keeps.refl _ _ | (refine Keeps.bumpR ?_ _))), ?_⟩
  show AV.pl _ = AV.pl _
  congr 2
  unfold bnd
  repeat' split
  all_goals omega
end Go.Proofs.YthjfncppiffnmaaDoor.Ra
