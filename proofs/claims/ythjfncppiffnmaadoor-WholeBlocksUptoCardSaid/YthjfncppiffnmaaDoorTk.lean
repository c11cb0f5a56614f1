/- Parse, in both texts. -/
import Derived.Test.YthjfncppiffnmaaDoorTj
import Derived.Test.YthjfncppiffnmaaDoorSfc
namespace Go.Proofs.YthjfncppiffnmaaDoor.Ra
open Go Go.RowKit
set_option linter.unusedVariables false
set_option linter.unusedSimpArgs false
set_option maxRecDepth 10000
/-- The tokens that are written, f rounds at most, behind those read so far. -/
def pars : Nat → List Int → List Tok → Int × List Tok
  | 0, _, acc => (0, acc)
  | f + 1, b, acc => if b = [] then (0, acc) else if (one b).1 ≠ 0 then ((one b).1, []) else pars f (b.drop (one b).2.2) (acc ++ [(one b).2.1])
theorem pars_more : ∀ (f : Nat) (b : List Int) (acc : List Tok), (∀ x ∈ b, 0 ≤ x ∧ x < 256) → b.length ≤ f → pars f b acc = pars b.length b acc := by
  intro f
  induction f using Nat.strongRecOn with
  | _ f ih =>
    intro b acc hby hf
    cases f with
    | zero =>
      have : b = [] := List.eq_nil_of_length_eq_zero (by omega)
      subst this
      rfl
    | succ f =>
      cases hb : b with
      | nil => rfl
      | cons x r =>
        rw [← hb]
        have hl : b.length = r.length + 1 := by rw [hb]; rfl
        rw [hl]
        simp only [pars]
        have hne : b ≠ [] := by rw [hb]; simp
        rw [if_neg hne, if_neg hne]
        by_cases h1 : (one b).1 ≠ 0
        · rw [if_pos h1, if_pos h1]
        · rw [if_neg h1, if_neg h1]
          obtain ⟨k1, k2, k3⟩ := one_len (by simpa using h1) hby
          have hby' : ∀ x ∈ b.drop (one b).2.2, 0 ≤ x ∧ x < 256 := fun x hx => hby x (List.mem_of_mem_drop hx)
          have hdl : (b.drop (one b).2.2).length = b.length - (one b).2.2 := List.length_drop
          rw [ih f (by omega) _ _ hby' (by omega), ih r.length (by omega) _ _ hby' (by omega)]
theorem pars_step (b : List Int) (acc : List Tok) (hby : ∀ x ∈ b, 0 ≤ x ∧ x < 256) (hne : b ≠ []) : pars b.length b acc = if (one b).1 ≠ 0 then ((one b).1, []) else pars (b.drop (one b).2.2).length (b.drop (one b).2.2) (acc ++ [(one b).2.1]) := by
  cases hb : b with
  | nil => exact absurd hb hne
  | cons x r =>
    rw [← hb]
    have hl : b.length = r.length + 1 := by rw [hb]; rfl
    conv => lhs; rw [hl]
    simp only [pars]
    rw [if_neg hne]
    by_cases h1 : (one b).1 ≠ 0
    · rw [if_pos h1, if_pos h1]
    · rw [if_neg h1, if_neg h1]
      obtain ⟨k1, k2, k3⟩ := one_len (by simpa using h1) hby
      rw [pars_more r.length _ _ (fun x hx => hby x (List.mem_of_mem_drop hx)) (by rw [List.length_drop]; omega)]
/-- What 'Parse' answers: rows of one's own, each token's in memory of its own. -/
def ParQ (st : St) (res : Int × List Tok) (r : AV) (s : St) : Prop :=
  Ext st s ∧ ∃ x, ∃ L : Nat → Nat → Prop, r = .tup [x, i64 res.1] ∧ x.solid = true ∧ OwX oTokK s (fun g => st.n ≤ g ∧ g < s.n) L TK x res.2 ∧ (∀ j g, L j g → st.n ≤ g ∧ g < s.n) ∧ (∀ i j g, L i g → L j g → i = j)
theorem ParQ.bad {st s : St} {res : Int × List Tok} {e : Int} (h : Ext st s) (hr : res = (e, [])) : ParQ st res (.tup [.pl (.slice none 0 0), i64 e]) s :=
  ⟨h, _, fun _ _ => False, by rw [hr], rfl, by rw [hr]; exact .inl ⟨rfl, rfl⟩, fun _ _ h => h.elim, fun _ _ _ h => h.elim⟩
set_option maxHeartbeats 4000000 in
theorem parse_ok {st : St} (hw : WF st) {K : Nat → Prop} {v : AV} {b : List Int} (h : RdB st K v b) (hl : b.length ≤ 140737488355) (hby : ∀ x ∈ b, 0 ≤ x ∧ x < 256) :
    ACalls Tryd.prog 6 [v] st (ParQ st (pars b.length b [])) := by
  replace h := h.lt hw
  have hvs := h.solid
  refine acalls_of Tryd.func6 rfl (by kernel_rfl) (by simp [hvs]) ?_
  repeat (first | (refine aw_seq ?_) | (refine aw_reg0 (by simp only [SZ, Nat.reduceAdd]; exact rfl) ?_) | (refine aw_reg (by decide +kernel) (by simp only [SZ, Nat.reduceAdd]; exact rfl) ?_) | (refine aw_regS (by decide +kernel) (by simp only [SZ, Nat.reduceAdd]; exact rfl) ?_) | (refine arl_nil ?_) | (refine aw_skip ?_) | (refine aw_block ?_) | (refine aw_exit ?_) | (refine aw_ret ?_) | (refine arl_cons rfl rfl (by simp +decide only [aop, abuiltin, aeval, aintBin, bin_int, aload_bump, SS, reduceIte, reduceCtorEq]; exact rfl) (by first | rfl | with_reducible assumption) rfl ?_) | (refine arl_none rfl rfl (by simp +decide only [aop, abuiltin, aeval, aintBin, bin_int, aload_bump, SS, reduceIte, reduceCtorEq]; exact rfl) rfl rfl ?_) | (refine arl_off rfl rfl ?_) | (refine aw_condT (by simp +decide only [aop, abuiltin, aeval, aintBin, bin_int, aload_bump, SS, reduceIte, reduceCtorEq]; first | done | exact rfl) ?_) | (refine aw_condF (by simp +decide only [aop, abuiltin, aeval, aintBin, bin_int, aload_bump, SS, reduceIte, reduceCtorEq]; first | done | exact rfl) ?_))
  refine aw_rounds_wf (fun m fr s => Ext st s ∧ ∃ (k : Nat) (acc : List Tok) (L : Nat → Nat → Prop), k ≤ b.length ∧ acc.length ≤ k ∧ m = b.length - k ∧ RdB s (fun g => True ∧ g < st.n) (fr 0) (b.drop k) ∧ pars b.length b [] = pars (b.drop k).length (b.drop k) acc ∧ OwX oTokK s (fun g => st.n ≤ g ∧ g < s.n) L TK (fr 4) acc ∧ (∀ j g, L j g → st.n ≤ g ∧ g < s.n) ∧ (∀ i j g, L i g → L j g → i = j)) ?_ b.length _ _ (by repeat (first | assumption | (refine WF.bump ?_ _))) ?_
  · rintro m fr s hws ⟨hE, k, acc, L, hk, hak, rfl, hR, hrun, hO, hL, hLd⟩
    have hEn := hE.n
    have hos := hO.solid
    have hrs := hR.solid
    have hln := hR.len
    have hbk : ∀ x ∈ b.drop k, 0 ≤ x ∧ x < 256 := fun x hx => hby x (List.mem_of_mem_drop hx)
    have hdl : (b.drop k).length = b.length - k := List.length_drop
    generalize hbb : b.drop k = bb at hR hln hrun hbk hdl
    by_cases hlt : 0 < bb.length
    · have hd : decide ((bb.length : Int) > 0) = true := decide_eq_true (by omega)
      have hne : bb ≠ [] := fun e => by rw [e] at hlt; simp at hlt
      rw [pars_step bb acc hbk hne] at hrun
      repeat (first | (refine aw_seq ?_) | (refine aw_reg0 (by simp only [SZ, Nat.reduceAdd]; exact rfl) ?_) | (refine aw_reg (by decide +kernel) (by simp only [SZ, Nat.reduceAdd]; exact rfl) ?_) | (refine aw_regS (by decide +kernel) (by simp only [SZ, Nat.reduceAdd]; exact rfl) ?_) | (refine arl_nil ?_) | (refine aw_skip ?_) | (refine aw_block ?_) | (refine aw_exit ?_) | (refine aw_ret ?_) | (refine arl_cons rfl rfl (by simp +decide only [aop, abuiltin, aeval, aintBin, bin_int, aload_bump, SS, reduceIte, reduceCtorEq, hln, hd]; exact rfl) (by first | rfl | with_reducible assumption) rfl ?_) | (refine arl_none rfl rfl (by simp +decide only [aop, abuiltin, aeval, aintBin, bin_int, aload_bump, SS, reduceIte, reduceCtorEq, hln, hd]; exact rfl) rfl rfl ?_) | (refine arl_off rfl rfl ?_) | (refine aw_condT (by simp +decide only [aop, abuiltin, aeval, aintBin, bin_int, aload_bump, SS, reduceIte, reduceCtorEq, hln, hd]; first | done | exact rfl) ?_) | (refine aw_condF (by simp +decide only [aop, abuiltin, aeval, aintBin, bin_int, aload_bump, SS, reduceIte, reduceCtorEq, hln, hd]; first | done | exact rfl) ?_))
      refine arl_call rfl rfl rfl rfl rfl rfl ((one_ok (by repeat (first | assumption | (refine WF.bump ?_ _))) (hR.up (by repeat (first | exact Keeps.refl _ _ | (refine Keeps.bumpR ?_ _)))) (by omega) (by omega) hbk).dead.wf (by repeat (first | assumption | (refine WF.bump ?_ _) | (refine WF.put ?_ (by simp only [n_bump, n_put, n_touch, n_kill] at *; omega) (by simp only [n_bump, n_put, n_touch, n_kill] at *; omega)))) |>.mono ?_)
      rintro r s1 ⟨hw1, hn1, hd1, hE1, c, rfl, hC⟩
      refine ⟨rfl, ?_⟩
      have hcs := hC.solid
      replace hE1 : Ext s s1 := Keeps.trans (show Ext s _ from (by repeat (first | exact Keeps.refl _ _ | (refine Keeps.bumpR ?_ _)))) hE1
      have hN1 := hE1.n
      have hnn1 := hn1
      simp only [n_bump] at hnn1
      refine arl_cons rfl rfl (by simp +decide only [aop, abuiltin, aeval, aintBin, bin_int, aload_bump, SS, reduceIte, reduceCtorEq]; exact rfl) (by first | rfl | with_reducible assumption) rfl ?_
      refine arl_cons rfl rfl (by simp +decide only [aop, abuiltin, aeval, aintBin, bin_int, aload_bump, SS, reduceIte, reduceCtorEq]; exact rfl) (by first | rfl | with_reducible assumption) rfl ?_
      refine arl_cons rfl rfl (by simp +decide only [aop, abuiltin, aeval, aintBin, bin_int, aload_bump, SS, reduceIte, reduceCtorEq]; exact rfl) (by first | rfl | with_reducible assumption) rfl ?_
      refine arl_cons rfl rfl (by simp +decide only [aop, abuiltin, aeval, aintBin, bin_int, aload_bump, SS, reduceIte, reduceCtorEq]; exact rfl) (by first | rfl | with_reducible assumption) rfl ?_
      refine arl_alloc rfl rfl rfl szTK zTK (hd1 _ (by first | omega | (simp only [n_bump, n_put]; omega) | (simp only [n_bump, n_put] at *; omega)) (fresh hws (by first | omega | (simp only [n_bump, n_put]; omega) | (simp only [n_bump, n_put] at *; omega)))) ?_
      intro s2 hn2 hwf2 hE2 hg2 hD2
      have hw2 : WF s2 := hwf2 hw1 (by first | omega | (simp only [n_bump, n_put]; omega) | (simp only [n_bump, n_put] at *; omega))
      refine arl_storeW (e := TK) (cs := [c, i64 (one bb).2.1.2.1, i64 (one bb).2.1.2.2]) rfl rfl rfl rfl rfl hg2 szTK rfl rfl rfl (by simp [hC.cell.2]; exact ⟨rfl, rfl⟩) rfl ?_
      intro s3 hn3 hwf3 hE3 hg3 hD3
      have hw3 : WF s3 := hwf3 hw2
      have hE3' := hE3
      replace hE3 : Ext s s3 := Keeps.call (hE1.trans hE2) hE3 hws (by simp only [n_bump]; intro g h; right; omega)
      have hN3 := hE3.n
      have hC3 := ((hC.mono (K' := fun g => g < st.n) (fun g h => h.2)).up hE2).keep hE3' (fun g h h' => by simp only [n_bump] at h'; omega)
      by_cases he : (one bb).1 = 0
      · obtain ⟨k1, k2, k3⟩ := one_len he hbk
        rw [if_neg (by simp [he])] at hrun
        have hbq : ((one bb).1 != 0) = false := bne_f he
        obtain ⟨q0, q1, q2, q3⟩ := tkLd hg3
        repeat (first | (refine aw_seq ?_) | (refine aw_reg0 (by simp only [SZ, Nat.reduceAdd]; exact rfl) ?_) | (refine aw_reg (by decide +kernel) (by simp only [SZ, Nat.reduceAdd]; exact rfl) ?_) | (refine aw_regS (by decide +kernel) (by simp only [SZ, Nat.reduceAdd]; exact rfl) ?_) | (refine arl_nil ?_) | (refine aw_skip ?_) | (refine aw_block ?_) | (refine aw_exit ?_) | (refine aw_ret ?_) | (refine arl_cons rfl rfl (by simp +decide only [aop, abuiltin, aeval, aintBin, bin_int, aload_bump, SS, reduceIte, reduceCtorEq, hbq, faT0, q0]; exact rfl) (by first | rfl | with_reducible assumption) rfl ?_) | (refine arl_none rfl rfl (by simp +decide only [aop, abuiltin, aeval, aintBin, bin_int, aload_bump, SS, reduceIte, reduceCtorEq, hbq, faT0, q0]; exact rfl) rfl rfl ?_) | (refine arl_off rfl rfl ?_) | (refine aw_condT (by simp +decide only [aop, abuiltin, aeval, aintBin, bin_int, aload_bump, SS, reduceIte, reduceCtorEq, hbq, faT0, q0]; first | done | exact rfl) ?_) | (refine aw_condF (by simp +decide only [aop, abuiltin, aeval, aintBin, bin_int, aload_bump, SS, reduceIte, reduceCtorEq, hbq, faT0, q0]; first | done | exact rfl) ?_))
        refine arl_call rfl rfl rfl rfl rfl rfl ((clone_ok (by repeat (first | assumption | (refine WF.bump ?_ _))) (hC3.up (by repeat (first | exact Keeps.refl _ _ | (refine Keeps.bumpR ?_ _)))) (by omega)).wf (by repeat (first | assumption | (refine WF.bump ?_ _) | (refine WF.put ?_ (by simp only [n_bump, n_put, n_touch, n_kill] at *; omega) (by simp only [n_bump, n_put, n_touch, n_kill] at *; omega)))) |>.mono ?_)
        rintro cc s4 ⟨hw4, hn4, hE4, hccs, hCC⟩
        refine ⟨by first | rfl | with_reducible assumption, ?_⟩
        replace hE4 : Ext s3 s4 := Keeps.trans (by repeat (first | assumption | exact Keeps.refl _ _ | (refine Keeps.bumpR ?_ _) | (refine Keeps.put ?_ (by assumption) (by simp only [n_bump, n_put, n_touch, n_kill] at *; omega)))) hE4
        have hN4 := hE4.n
        replace hCC := hCC.lt hw4
        have hg4 := hE4.get _ _ hg3 (fun h => h)
        have hn4' := hn4
        simp only [n_bump] at hn4'
        refine arl_cons rfl rfl (by simp +decide only [aop, abuiltin, aeval, aintBin, bin_int, aload_bump, SS, reduceIte, reduceCtorEq, faT0]; exact rfl) (by first | rfl | with_reducible assumption) rfl ?_
        refine arl_storeX (off := 0) rfl rfl rfl rfl rfl hg4 szB hCC.rd.cell.1 hCC.rd.cell.2 hccs (by simp) ?_
        intro s5 hn5 hwf5 hE5 hg5 hD5
        have hw5 : WF s5 := hwf5 hw4
        replace hg5 : s5.get _ = some ⟨[cc, i64 (one bb).2.1.2.1, i64 (one bb).2.1.2.2], TK, true, _⟩ := hg5
        have hS5 : Ext s s5 := Keeps.call (hE3.trans hE4) hE5 hws (by simp only [n_bump]; intro g h; right; omega)
        have hN5 := hS5.n
        have hC5 := hCC.keep hE5 (fun g h h' => by have := h.1; simp only [n_bump] at this h'; omega)
        have u3 := (tkLd hg5).2.2.2
        repeat (first | (refine aw_seq ?_) | (refine aw_reg0 (by simp only [SZ, Nat.reduceAdd]; exact rfl) ?_) | (refine aw_reg (by decide +kernel) (by simp only [SZ, Nat.reduceAdd]; exact rfl) ?_) | (refine aw_regS (by decide +kernel) (by simp only [SZ, Nat.reduceAdd]; exact rfl) ?_) | (refine arl_nil ?_) | (refine aw_skip ?_) | (refine aw_block ?_) | (refine aw_exit ?_) | (refine aw_ret ?_) | (refine arl_cons rfl rfl (by simp +decide only [aop, abuiltin, aeval, aintBin, bin_int, aload_bump, SS, reduceIte, reduceCtorEq, u3, litT1]; exact rfl) (by first | rfl | with_reducible assumption) rfl ?_) | (refine arl_none rfl rfl (by simp +decide only [aop, abuiltin, aeval, aintBin, bin_int, aload_bump, SS, reduceIte, reduceCtorEq, u3, litT1]; exact rfl) rfl rfl ?_) | (refine arl_off rfl rfl ?_) | (refine aw_condT (by simp +decide only [aop, abuiltin, aeval, aintBin, bin_int, aload_bump, SS, reduceIte, reduceCtorEq, u3, litT1]; first | done | exact rfl) ?_) | (refine aw_condF (by simp +decide only [aop, abuiltin, aeval, aintBin, bin_int, aload_bump, SS, reduceIte, reduceCtorEq, u3, litT1]; first | done | exact rfl) ?_))
        refine arl_appX (k := oTokK) (K0 := fun g => st.n ≤ g ∧ g < s.n) (L0 := L) (Kx := fun _ => True) (Kn := fun g => s3.n ≤ g ∧ g < s5.n) (K := fun g => st.n ≤ g ∧ (g < s.n ∨ s5.n ≤ g)) (L := fun j g => (j < acc.length ∧ L j g) ∨ (j = acc.length ∧ s3.n ≤ g ∧ g < s5.n)) (xs := acc) (ns := [(one bb).2.1]) TTK rfl rfl rfl ((hO.up hS5).up (by repeat (first | assumption | exact Keeps.refl _ _ | (refine Keeps.bumpR ?_ _) | (refine Keeps.put ?_ (by assumption) (by simp only [n_bump, n_put, n_touch, n_kill] at *; omega))))) (RdL.one ⟨cc, rfl, (hC5.mono (fun g h => ⟨by have := h.1; simp only [n_bump] at this; omega, by have := h.2; omega⟩)).up (by repeat (first | assumption | exact Keeps.refl _ _ | (refine Keeps.bumpR ?_ _) | (refine Keeps.put ?_ (by assumption) (by simp only [n_bump, n_put, n_touch, n_kill] at *; omega))))⟩ rfl _ trivial _) (fun g h h' => by omega) ⟨fun h => by first | omega | (simp only [n_bump] at h; omega), fun _ => ⟨(by first | omega | (simp only [n_bump, n_put]; omega) | (simp only [n_bump, n_put] at *; omega)), .inr (by first | omega | (simp only [n_bump, n_put]; omega) | (simp only [n_bump, n_put] at *; omega))⟩⟩ (fun g h => ⟨h.1, .inl h.2⟩) (fun j g hj h => .inl ⟨hj, h⟩) (fun j g hj hj' h => .inr ⟨by simp at hj'; omega, h⟩) ?hfr (by simp; omega) (by simp; omega) ?_
        case hfr =>
          rw [get_put_ne _ (by omega)]
          exact fresh hw5 (by first | omega | (simp only [n_bump, n_put]; omega) | (simp only [n_bump, n_put] at *; omega))
        intro y s6 hO6 hn6 hK6 hwf6
        have hys := hO6.solid
        replace hn6 : s6.n = _ := hn6
        replace hK6 : Keeps (fun g => st.n ≤ g ∧ g < s.n) s5 s6 := Keeps.trans (Keeps.mono (G := fun _ => False) (show Ext s5 _ from (by repeat (first | assumption | exact Keeps.refl _ _ | (refine Keeps.bumpR ?_ _) | (refine Keeps.put ?_ (by assumption) (by simp only [n_bump, n_put, n_touch, n_kill] at *; omega))))) (fun _ h => h.elim)) hK6
        have hS6 : Ext st s6 := Keeps.call (hE.trans hS5) hK6 hw (fun g h => .inr h.1)
        have hS6' : Keeps (fun g => st.n ≤ g) s s6 := (hS5.mono (fun _ h => h.elim)).trans (hK6.mono (fun g h => h.1))
        have hN6 := hK6.n
        obtain ⟨u, hcut, hus, hU⟩ := (hR.keep hS6' (fun g h h' => by have := h.2; omega)).cuts (some (i64 ((one bb).2.2 : Nat))) none (one bb).2.2 bb.length (.inl rfl) (.inr ⟨rfl, rfl⟩) k2 (Nat.le_refl _)
        rw [List.take_of_length_le (by rw [List.length_drop]; exact Nat.le_refl _)] at hU
        have hw6 : WF s6 := hwf6 (by repeat (first | assumption | (refine WF.bump ?_ _) | (refine WF.put ?_ (by simp only [n_bump, n_put, n_touch, n_kill] at *; omega) (by simp only [n_bump, n_put, n_touch, n_kill] at *; omega)))) (by first | omega | (simp only [n_bump, n_put]; omega) | (simp only [n_bump, n_put] at *; omega))
        repeat (first | (refine aw_seq ?_) | (refine aw_reg0 (by simp only [SZ, Nat.reduceAdd]; exact rfl) ?_) | (refine aw_reg (by decide +kernel) (by simp only [SZ, Nat.reduceAdd]; exact rfl) ?_) | (refine aw_regS (by decide +kernel) (by simp only [SZ, Nat.reduceAdd]; exact rfl) ?_) | (refine arl_nil ?_) | (refine aw_skip ?_) | (refine aw_block ?_) | (refine aw_exit ?_) | (refine aw_ret ?_) | (refine arl_cons rfl rfl (by simp +decide only [aop, abuiltin, aeval, aintBin, bin_int, aload_bump, SS, reduceIte, reduceCtorEq, hcut]; exact rfl) (by first | rfl | with_reducible assumption) rfl ?_) | (refine arl_none rfl rfl (by simp +decide only [aop, abuiltin, aeval, aintBin, bin_int, aload_bump, SS, reduceIte, reduceCtorEq, hcut]; exact rfl) rfl rfl ?_) | (refine arl_off rfl rfl ?_) | (refine aw_condT (by simp +decide only [aop, abuiltin, aeval, aintBin, bin_int, aload_bump, SS, reduceIte, reduceCtorEq, hcut]; first | done | exact rfl) ?_) | (refine aw_condF (by simp +decide only [aop, abuiltin, aeval, aintBin, bin_int, aload_bump, SS, reduceIte, reduceCtorEq, hcut]; first | done | exact rfl) ?_))
        refine ⟨b.length - (k + (one bb).2.2), by omega, hS6.trans (by repeat (first | exact Keeps.refl _ _ | (refine Keeps.bumpR ?_ _))), k + (one bb).2.2, acc ++ [(one bb).2.1], _, by omega, by simp; omega, rfl, ?_, ?_, ((hO6.lt hw6).mono (fun g h => ⟨h.1.1, by have := h.2; simp only [n_bump]; omega⟩) (fun j g h => h.1)).up (by repeat (first | exact Keeps.refl _ _ | (refine Keeps.bumpR ?_ _))), ?_, ?_⟩
        · rw [← List.drop_drop, hbb]
          exact hU.up (by repeat (first | exact Keeps.refl _ _ | (refine Keeps.bumpR ?_ _)))
        · rw [hrun, ← List.drop_drop, hbb]
        · rintro j g (⟨h1, h2⟩ | ⟨h1, h2, h3⟩)
          · have := hL j g h2
            simp only [n_bump]
            omega
          · simp only [n_bump]
            omega
        · rintro i j g (⟨h1, h2⟩ | ⟨h1, h2, h3⟩) (⟨h4, h5⟩ | ⟨h4, h5, h6⟩)
          · exact hLd i j g h2 h5
          · have := hL i g h2
            omega
          · have := hL j g h5
            omega
          · omega
      · rw [if_pos he] at hrun
        have hbq : ((one bb).1 != 0) = true := bne_t he
        repeat (first | (refine aw_seq ?_) | (refine aw_reg0 (by simp only [SZ, Nat.reduceAdd]; exact rfl) ?_) | (refine aw_reg (by decide +kernel) (by simp only [SZ, Nat.reduceAdd]; exact rfl) ?_) | (refine aw_regS (by decide +kernel) (by simp only [SZ, Nat.reduceAdd]; exact rfl) ?_) | (refine arl_nil ?_) | (refine aw_skip ?_) | (refine aw_block ?_) | (refine aw_exit ?_) | (refine aw_ret ?_) | (refine arl_cons rfl rfl (by simp +decide only [aop, abuiltin, aeval, aintBin, bin_int, aload_bump, SS, reduceIte, reduceCtorEq, hbq]; exact rfl) (by first | rfl | with_reducible assumption) rfl ?_) | (refine arl_none rfl rfl (by simp +decide only [aop, abuiltin, aeval, aintBin, bin_int, aload_bump, SS, reduceIte, reduceCtorEq, hbq]; exact rfl) rfl rfl ?_) | (refine arl_off rfl rfl ?_) | (refine aw_condT (by simp +decide only [aop, abuiltin, aeval, aintBin, bin_int, aload_bump, SS, reduceIte, reduceCtorEq, hbq]; first | done | exact rfl) ?_) | (refine aw_condF (by simp +decide only [aop, abuiltin, aeval, aintBin, bin_int, aload_bump, SS, reduceIte, reduceCtorEq, hbq]; first | done | exact rfl) ?_))
        exact ⟨.inr rfl, _, rfl, ParQ.bad ((hE.trans hE3).trans (by repeat (first | exact Keeps.refl _ _ | (refine Keeps.bumpR ?_ _)))) hrun⟩
    · have hd : decide ((bb.length : Int) > 0) = false := decide_eq_false (by omega)
      have hnil : bb = [] := List.eq_nil_of_length_eq_zero (by omega)
      rw [hnil] at hrun
      repeat (first | (refine aw_seq ?_) | (refine aw_reg0 (by simp only [SZ, Nat.reduceAdd]; exact rfl) ?_) | (refine aw_reg (by decide +kernel) (by simp only [SZ, Nat.reduceAdd]; exact rfl) ?_) | (refine aw_regS (by decide +kernel) (by simp only [SZ, Nat.reduceAdd]; exact rfl) ?_) | (refine arl_nil ?_) | (refine aw_skip ?_) | (refine aw_block ?_) | (refine aw_exit ?_) | (refine aw_ret ?_) | (refine arl_cons rfl rfl (by simp +decide only [aop, abuiltin, aeval, aintBin, bin_int, aload_bump, SS, reduceIte, reduceCtorEq, hln, hd]; exact rfl) (by first | rfl | with_reducible assumption) rfl ?_) | (refine arl_none rfl rfl (by simp +decide only [aop, abuiltin, aeval, aintBin, bin_int, aload_bump, SS, reduceIte, reduceCtorEq, hln, hd]; exact rfl) rfl rfl ?_) | (refine arl_off rfl rfl ?_) | (refine aw_condT (by simp +decide only [aop, abuiltin, aeval, aintBin, bin_int, aload_bump, SS, reduceIte, reduceCtorEq, hln, hd]; first | done | exact rfl) ?_) | (refine aw_condF (by simp +decide only [aop, abuiltin, aeval, aintBin, bin_int, aload_bump, SS, reduceIte, reduceCtorEq, hln, hd]; first | done | exact rfl) ?_))
      refine ⟨.inr rfl, _, rfl, hE.trans (by repeat (first | exact Keeps.refl _ _ | (refine Keeps.bumpR ?_ _))), fr 4, L, by rw [hrun]; rfl, hos, ?_, fun j g h => by have := hL j g h; simp only [n_bump]; omega, hLd⟩
      rw [hrun]
      exact (hO.mono (fun g h => ⟨h.1, by have := h.2; simp only [n_bump]; omega⟩) (fun _ _ h => h)).up (by repeat (first | exact Keeps.refl _ _ | (refine Keeps.bumpR ?_ _)))
  · exact ⟨(by repeat (first | exact Keeps.refl _ _ | (refine Keeps.bumpR ?_ _))), 0, [], fun _ _ => False, by omega, by simp, rfl, (h.mono (fun g h => ⟨trivial, h.2⟩)).up (by repeat (first | exact Keeps.refl _ _ | (refine Keeps.bumpR ?_ _))), rfl, .inl ⟨rfl, rfl⟩, fun _ _ h => h.elim, fun _ _ _ h => h.elim⟩
/-- What the reference's 'Parse' answers. -/
def ParR (st : St) (res : Int × List Tok) (r : AV) (s : St) : Prop :=
  Ext st s ∧ ∃ x, r = .tup [x, i64 res.1] ∧ x.solid = true ∧ RdE tokK s (fun g => st.n ≤ g) x res.2
theorem ParR.bad {st s : St} {res : Int × List Tok} {e : Int} (h : Ext st s) (hr : res = (e, [])) : ParR st res (.tup [.pl (.slice none 0 0), i64 e]) s :=
  ⟨h, _, by rw [hr], rfl, by rw [hr]; exact .inl ⟨rfl, .inl ⟨_, _, rfl⟩⟩⟩
end Go.Proofs.YthjfncppiffnmaaDoor.Ra
