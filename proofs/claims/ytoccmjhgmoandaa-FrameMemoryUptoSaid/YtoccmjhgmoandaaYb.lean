/- leatlaw17.FrameHolds. -/
import Derived.Test.YtoccmjhgmoandaaYa
namespace Go.Proofs.Ytoccmjhgmoandaa.Ra
open Go Go.RowKit
set_option linter.unusedVariables false
set_option linter.unusedSimpArgs false
set_option maxRecDepth 10000
/-- A box that holds a State. -/
def Sob (st : St) (n : Nat) (a b c d : Int) : Prop := st.get n = some ⟨[i64 a, i64 b, i64 c, i64 d], ST, true, n⟩
structure Slds (st : St) (n : Nat) (a b c d : Int) : Prop where
  l0 : aload Try.prog st 3 (.ptr n 0) = some (i64 a)
  l1 : aload Try.prog st 3 (.ptr n (0 + 1)) = some (i64 b)
  l2 : aload Try.prog st 3 (.ptr n (0 + 2)) = some (i64 c)
  l3 : aload Try.prog st 28 (.ptr n (0 + 3)) = some (i64 d)
  la : aload Try.prog st ST (.ptr n 0) = some (stT a b c d)
theorem Sob.lds {st : St} {n : Nat} {a b c d : Int} (h : Sob st n a b c d) : Slds st n a b c d :=
  ⟨load_at Try.underlying3 rfl szI h rfl, load_at Try.underlying3 rfl szI h rfl, load_at Try.underlying3 rfl szI h rfl, ldE h rfl, load_agg Try.underlying34 rfl szST h (by simp)⟩
theorem Sob.keep {st s : St} {G : Nat → Prop} {n : Nat} {a b c d : Int} (h : Sob st n a b c d) (hk : Keeps G st s) (hn : ¬ G n) : Sob s n a b c d := hk.get _ _ h hn
set_option maxHeartbeats 8000000 in
theorem holds_ok {st : St} (hw : WF st) {v : AV} {ps : List (List Int)} (most : Int) (h : RdE rowK st (fun _ => True) v ps) (hl : ps.flatten.length + ps.length ≤ 1048576) (hby : ∀ p ∈ ps, ∀ x ∈ p, 0 ≤ x ∧ x < 256) :
    ACalls Try.prog 4 [i64 most, v] st (fun r s => r = .pl (.bool true)) := by
  replace h := RdE.lt hw h
  have hvs := h.solid
  have hln := RdE.len h TRr
  have hM := bndF_in most
  refine acalls_of Try.func4 rfl (by kernel_rfl) (by simp [hvs]; rfl) ?_
  repeat (first | (refine aw_seq ?_) | (refine aw_reg0 (by simp only [SZ, Nat.reduceAdd]; exact rfl) ?_) | (refine aw_reg (by decide +kernel) (by simp only [SZ, Nat.reduceAdd]; exact rfl) ?_) | (refine aw_regS (by decide +kernel) (by simp only [SZ, Nat.reduceAdd]; exact rfl) ?_) | (refine arl_nil ?_) | (refine aw_skip ?_) | (refine aw_block ?_) | (refine aw_exit ?_) | (refine aw_ret ?_) | (refine arl_cons rfl rfl (by simp +decide only [aop, abuiltin, aeval, aintBin, bin_int, aload_bump, SS, reduceIte, reduceCtorEq]; exact rfl) (by first | rfl | with_reducible assumption) rfl ?_) | (refine arl_none rfl rfl (by simp +decide only [aop, abuiltin, aeval, aintBin, bin_int, aload_bump, SS, reduceIte, reduceCtorEq]; exact rfl) rfl rfl ?_) | (refine arl_off rfl rfl ?_) | (refine aw_condT (by simp +decide only [aop, abuiltin, aeval, aintBin, bin_int, aload_bump, SS, reduceIte, reduceCtorEq]; first | done | exact rfl) ?_) | (refine aw_condF (by simp +decide only [aop, abuiltin, aeval, aintBin, bin_int, aload_bump, SS, reduceIte, reduceCtorEq]; first | done | exact rfl) ?_))
  refine arl_call rfl rfl rfl rfl rfl rfl ((fnewP (by repeat (first | assumption | (refine WF.bump ?_ _))) most).wf (by repeat (first | assumption | (refine WF.bump ?_ _) | (refine WF.put ?_ (by simp only [n_bump, n_put, n_touch, n_kill] at *; omega) (by simp only [n_bump, n_put, n_touch, n_kill] at *; omega)))) |>.mono ?_)
  rintro r s1 ⟨hw1, hn1, hE1, p, rfl, hpn, hF1⟩
  refine ⟨by first | rfl | with_reducible assumption, ?_⟩
  replace hE1 : Ext st s1 := Keeps.trans (by repeat (first | assumption | exact Keeps.refl _ _ | (refine Keeps.bumpR ?_ _) | (refine Keeps.put ?_ (by assumption) (by simp only [n_bump, n_put, n_touch, n_kill] at *; omega)))) hE1
  have hN1 := hE1.n
  have hp1 : p + 1 ≤ s1.n := hF1.2.1
  simp only [n_bump] at hpn
  repeat (first | (refine aw_seq ?_) | (refine aw_reg0 (by simp only [SZ, Nat.reduceAdd]; exact rfl) ?_) | (refine aw_reg (by decide +kernel) (by simp only [SZ, Nat.reduceAdd]; exact rfl) ?_) | (refine aw_regS (by decide +kernel) (by simp only [SZ, Nat.reduceAdd]; exact rfl) ?_) | (refine arl_nil ?_) | (refine aw_skip ?_) | (refine aw_block ?_) | (refine aw_exit ?_) | (refine aw_ret ?_) | (refine arl_cons rfl rfl (by simp +decide only [aop, abuiltin, aeval, aintBin, bin_int, aload_bump, SS, reduceIte, reduceCtorEq, pNil]; exact rfl) (by first | rfl | with_reducible assumption) rfl ?_) | (refine arl_none rfl rfl (by simp +decide only [aop, abuiltin, aeval, aintBin, bin_int, aload_bump, SS, reduceIte, reduceCtorEq, pNil]; exact rfl) rfl rfl ?_) | (refine arl_off rfl rfl ?_) | (refine aw_condT (by simp +decide only [aop, abuiltin, aeval, aintBin, bin_int, aload_bump, SS, reduceIte, reduceCtorEq, pNil]; first | done | exact rfl) ?_) | (refine aw_condF (by simp +decide only [aop, abuiltin, aeval, aintBin, bin_int, aload_bump, SS, reduceIte, reduceCtorEq, pNil]; first | done | exact rfl) ?_))
  refine arl_call rfl rfl rfl rfl rfl rfl ((falive_ok (by repeat (first | assumption | (refine WF.bump ?_ _)))).wf (by repeat (first | assumption | (refine WF.bump ?_ _) | (refine WF.put ?_ (by simp only [n_bump, n_put, n_touch, n_kill] at *; omega) (by simp only [n_bump, n_put, n_touch, n_kill] at *; omega)))) |>.mono ?_)
  rintro r s2 ⟨hw2, hn2, hE2, rfl⟩
  refine ⟨by first | rfl | with_reducible assumption, ?_⟩
  replace hE2 : Ext s1 s2 := Keeps.trans (by repeat (first | assumption | exact Keeps.refl _ _ | (refine Keeps.bumpR ?_ _) | (refine Keeps.put ?_ (by assumption) (by simp only [n_bump, n_put, n_touch, n_kill] at *; omega)))) hE2
  have hN2 := hE2.n
  have hF2 := hF1.up hE2
  have hE12 := hE1.trans hE2
  have hN2 := hE2.n
  repeat (first | (refine aw_seq ?_) | (refine aw_reg0 (by simp only [SZ, Nat.reduceAdd]; exact rfl) ?_) | (refine aw_reg (by decide +kernel) (by simp only [SZ, Nat.reduceAdd]; exact rfl) ?_) | (refine aw_regS (by decide +kernel) (by simp only [SZ, Nat.reduceAdd]; exact rfl) ?_) | (refine arl_nil ?_) | (refine aw_skip ?_) | (refine aw_block ?_) | (refine aw_exit ?_) | (refine aw_ret ?_) | (refine arl_cons rfl rfl (by simp +decide only [aop, abuiltin, aeval, aintBin, bin_int, aload_bump, SS, reduceIte, reduceCtorEq]; exact rfl) (by first | rfl | with_reducible assumption) rfl ?_) | (refine arl_none rfl rfl (by simp +decide only [aop, abuiltin, aeval, aintBin, bin_int, aload_bump, SS, reduceIte, reduceCtorEq]; exact rfl) rfl rfl ?_) | (refine arl_off rfl rfl ?_) | (refine aw_condT (by simp +decide only [aop, abuiltin, aeval, aintBin, bin_int, aload_bump, SS, reduceIte, reduceCtorEq]; first | done | exact rfl) ?_) | (refine aw_condF (by simp +decide only [aop, abuiltin, aeval, aintBin, bin_int, aload_bump, SS, reduceIte, reduceCtorEq]; first | done | exact rfl) ?_))
  refine arl_call rfl rfl rfl rfl rfl rfl ((rbound_ok most).wf (by repeat (first | assumption | (refine WF.bump ?_ _) | (refine WF.put ?_ (by simp only [n_bump, n_put, n_touch, n_kill] at *; omega) (by simp only [n_bump, n_put, n_touch, n_kill] at *; omega)))) |>.mono ?_)
  rintro r s3 ⟨hw3, hn3, hE3, rfl⟩
  refine ⟨by first | rfl | with_reducible assumption, ?_⟩
  replace hE3 : Ext s2 s3 := Keeps.trans (by repeat (first | assumption | exact Keeps.refl _ _ | (refine Keeps.bumpR ?_ _) | (refine Keeps.put ?_ (by assumption) (by simp only [n_bump, n_put, n_touch, n_kill] at *; omega)))) hE3
  have hN3 := hE3.n
  have hF3 := hF2.up hE3
  have hN3 := hE3.n
  repeat (first | (refine aw_seq ?_) | (refine aw_reg0 (by simp only [SZ, Nat.reduceAdd]; exact rfl) ?_) | (refine aw_reg (by decide +kernel) (by simp only [SZ, Nat.reduceAdd]; exact rfl) ?_) | (refine aw_regS (by decide +kernel) (by simp only [SZ, Nat.reduceAdd]; exact rfl) ?_) | (refine arl_nil ?_) | (refine aw_skip ?_) | (refine aw_block ?_) | (refine aw_exit ?_) | (refine aw_ret ?_) | (refine arl_cons rfl rfl (by simp +decide only [aop, abuiltin, aeval, aintBin, bin_int, aload_bump, SS, reduceIte, reduceCtorEq, hln]; exact rfl) (by first | rfl | with_reducible assumption) rfl ?_) | (refine arl_none rfl rfl (by simp +decide only [aop, abuiltin, aeval, aintBin, bin_int, aload_bump, SS, reduceIte, reduceCtorEq, hln]; exact rfl) rfl rfl ?_) | (refine arl_off rfl rfl ?_) | (refine aw_condT (by simp +decide only [aop, abuiltin, aeval, aintBin, bin_int, aload_bump, SS, reduceIte, reduceCtorEq, hln]; first | done | exact rfl) ?_) | (refine aw_condF (by simp +decide only [aop, abuiltin, aeval, aintBin, bin_int, aload_bump, SS, reduceIte, reduceCtorEq, hln]; first | done | exact rfl) ?_))
  refine aw_rounds_wf (fun m fr s => Ext st s ∧ ∃ (k : Nat) (KH KB : Nat → Prop), k ≤ ps.length ∧ m = ps.length - k ∧ fr 5 = .ptr p 0 ∧ fr 6 = i64 (bndF most) ∧ fr 7 = i64 (ps.take k).flatten.length ∧ fr 26 = v ∧ fr 27 = i64 ps.length ∧ fr 28 = i64 k ∧ Fed s (p + 1) p KH KB (bndF most) (ps.take k).flatten) ?_ ps.length _ _ (by repeat (first | assumption | (refine WF.bump ?_ _) | (refine WF.put ?_ (by simp only [n_bump, n_put, n_touch, n_kill] at *; omega) (by simp only [n_bump, n_put, n_touch, n_kill] at *; omega)))) ?_
  · rintro m fr sx hwx ⟨hE, k, KH, KB, hk, rfl, f5, f6, f7, f26, f27, f28, hF⟩
    have hEn := hE.n
    by_cases hlt : k < ps.length
    · have d1 : decide ((k : Int) < (ps.length : Int)) = true := decide_eq_true (by omega)
      obtain ⟨q, c, a1, a2, a3, a4, a5⟩ := row_at (h.up hE) .i64 k hlt
      have hcl := a5.len
      have hfl1 := flatF_le ps (k + 1)
      rw [flatF_succ ps k hlt, List.length_append] at hfl1
      have hpx : p + 1 ≤ sx.n := hF.2.1
      have hlo : ∀ g, KH g ∨ KB g → p + 1 ≤ g ∧ g < sx.n := fun g hg => by
        rcases hg with hg | hg
        · exact hF.2.2.1 g hg
        · exact hF.2.2.2.1 g hg
      repeat (first | (refine aw_seq ?_) | (refine aw_reg0 (by simp only [SZ, Nat.reduceAdd]; exact rfl) ?_) | (refine aw_reg (by decide +kernel) (by simp only [SZ, Nat.reduceAdd]; exact rfl) ?_) | (refine aw_regS (by decide +kernel) (by simp only [SZ, Nat.reduceAdd]; exact rfl) ?_) | (refine arl_nil ?_) | (refine aw_skip ?_) | (refine aw_block ?_) | (refine aw_exit ?_) | (refine aw_ret ?_) | (refine arl_cons rfl rfl (by simp +decide only [aop, abuiltin, aeval, aintBin, bin_int, aload_bump, SS, reduceIte, reduceCtorEq, f28, f27, d1, f26, a1, a3, f5]; exact rfl) (by first | rfl | with_reducible assumption) rfl ?_) | (refine arl_none rfl rfl (by simp +decide only [aop, abuiltin, aeval, aintBin, bin_int, aload_bump, SS, reduceIte, reduceCtorEq, f28, f27, d1, f26, a1, a3, f5]; exact rfl) rfl rfl ?_) | (refine arl_off rfl rfl ?_) | (refine aw_condT (by simp +decide only [aop, abuiltin, aeval, aintBin, bin_int, aload_bump, SS, reduceIte, reduceCtorEq, f28, f27, d1, f26, a1, a3, f5]; first | done | exact rfl) ?_) | (refine aw_condF (by simp +decide only [aop, abuiltin, aeval, aintBin, bin_int, aload_bump, SS, reduceIte, reduceCtorEq, f28, f27, d1, f26, a1, a3, f5]; first | done | exact rfl) ?_))
      refine arl_call rfl rfl rfl rfl rfl rfl ((fstate_ok (by repeat (first | assumption | (refine WF.bump ?_ _))) (hF.up (by repeat (first | exact Keeps.refl _ _ | (refine Keeps.bumpR ?_ _)))) (by omega)).dead.wf (by repeat (first | assumption | (refine WF.bump ?_ _) | (refine WF.put ?_ (by simp only [n_bump, n_put, n_touch, n_kill] at *; omega) (by simp only [n_bump, n_put, n_touch, n_kill] at *; omega)))) |>.mono ?_)
      rintro r s4 ⟨hw4, hn4, hd4, hE4, rfl⟩
      refine ⟨rfl, ?_⟩
      replace hE4 : Ext sx s4 := Keeps.trans (show Ext sx _ from (by repeat (first | exact Keeps.refl _ _ | (refine Keeps.bumpR ?_ _)))) hE4
      simp only [n_bump] at hn4
      repeat (first | (refine aw_seq ?_) | (refine aw_reg0 (by simp only [SZ, Nat.reduceAdd]; exact rfl) ?_) | (refine aw_reg (by decide +kernel) (by simp only [SZ, Nat.reduceAdd]; exact rfl) ?_) | (refine aw_regS (by decide +kernel) (by simp only [SZ, Nat.reduceAdd]; exact rfl) ?_) | (refine arl_nil ?_) | (refine aw_skip ?_) | (refine aw_block ?_) | (refine aw_exit ?_) | (refine aw_ret ?_) | (refine arl_cons rfl rfl (by simp +decide only [aop, abuiltin, aeval, aintBin, bin_int, aload_bump, SS, reduceIte, reduceCtorEq]; exact rfl) (by first | rfl | with_reducible assumption) rfl ?_) | (refine arl_none rfl rfl (by simp +decide only [aop, abuiltin, aeval, aintBin, bin_int, aload_bump, SS, reduceIte, reduceCtorEq]; exact rfl) rfl rfl ?_) | (refine arl_off rfl rfl ?_) | (refine aw_condT (by simp +decide only [aop, abuiltin, aeval, aintBin, bin_int, aload_bump, SS, reduceIte, reduceCtorEq]; first | done | exact rfl) ?_) | (refine aw_condF (by simp +decide only [aop, abuiltin, aeval, aintBin, bin_int, aload_bump, SS, reduceIte, reduceCtorEq]; first | done | exact rfl) ?_))
      obtain ⟨qa, qb, qc, hqc⟩ : ∃ qa qb qc : Int, stOf (ps.take k).flatten (cutS (bndF most) (ps.take k).flatten) = stT qa qb qc (cutS (bndF most) (ps.take k).flatten).2.2 ∧ qa = (cutS (bndF most) (ps.take k).flatten).1.length := ⟨_, _, _, rfl, rfl⟩
      obtain ⟨qd, hqd⟩ : ∃ qd, (cutS (bndF most) (ps.take k).flatten).2.2 = qd := ⟨_, rfl⟩
      rw [hqd] at hqc
      rw [hqc.1]
      refine arl_storeW (e := ST) (cs := [i64 qa, i64 qb, i64 qc, i64 qd]) rfl rfl rfl rfl rfl (get_put _ _) szST rfl rfl rfl rfl rfl ?_
      intro s5 hn5 hwf5 hK5 hg5 hD5
      obtain ⟨nb, hnb⟩ : ∃ nb, ((sx.bump 1).bump 3).n + (0 + 1 + 1) = nb := ⟨_, rfl⟩
      rw [hnb] at hwf5 hK5 hg5 hD5 ⊢
      simp only [n_bump] at hnb
      have hw5 : WF s5 := hwf5 (WF.put hw4 (show nb < s4.n by omega) (show nb < s4.n by omega))
      have hn5' : s5.n = s4.n := by rw [hn5]; rfl
      have hput : ∀ o : AObj, Ext s4 (s4.put nb o) := fun o => Keeps.putF (Keeps.refl _ _) (hd4 _ (by simp only [n_bump]; omega) (fresh hwx (by omega)))
      have hE5 : Ext sx s5 := Keeps.call (Keeps.trans hE4 (hput _)) hK5 hwx (fun g hg => .inr (by omega))
      have hS1 : Sob s5 nb qa qb qc qd := hg5
      have hF5 := hF.up hE5
      have hN5 := hE5.n
      repeat (first | (refine aw_seq ?_) | (refine aw_reg0 (by simp only [SZ, Nat.reduceAdd]; exact rfl) ?_) | (refine aw_reg (by decide +kernel) (by simp only [SZ, Nat.reduceAdd]; exact rfl) ?_) | (refine aw_regS (by decide +kernel) (by simp only [SZ, Nat.reduceAdd]; exact rfl) ?_) | (refine arl_nil ?_) | (refine aw_skip ?_) | (refine aw_block ?_) | (refine aw_exit ?_) | (refine aw_ret ?_) | (refine arl_cons rfl rfl (by simp +decide only [aop, abuiltin, aeval, aintBin, bin_int, aload_bump, SS, reduceIte, reduceCtorEq, f5]; exact rfl) (by first | rfl | with_reducible assumption) rfl ?_) | (refine arl_none rfl rfl (by simp +decide only [aop, abuiltin, aeval, aintBin, bin_int, aload_bump, SS, reduceIte, reduceCtorEq, f5]; exact rfl) rfl rfl ?_) | (refine arl_off rfl rfl ?_) | (refine aw_condT (by simp +decide only [aop, abuiltin, aeval, aintBin, bin_int, aload_bump, SS, reduceIte, reduceCtorEq, f5]; first | done | exact rfl) ?_) | (refine aw_condF (by simp +decide only [aop, abuiltin, aeval, aintBin, bin_int, aload_bump, SS, reduceIte, reduceCtorEq, f5]; first | done | exact rfl) ?_))
      refine arl_call rfl rfl rfl rfl rfl rfl ((copy_ok (by repeat (first | assumption | (refine WF.bump ?_ _))) ((a5.up hE5).up (by repeat (first | exact Keeps.refl _ _ | (refine Keeps.bumpR ?_ _)))) (by omega)).wf (by repeat (first | assumption | (refine WF.bump ?_ _) | (refine WF.put ?_ (by simp only [n_bump, n_put, n_touch, n_kill] at *; omega) (by simp only [n_bump, n_put, n_touch, n_kill] at *; omega)))) |>.mono ?_)
      rintro u s6 ⟨hw6, hn6, hE6, hus, hU⟩
      refine ⟨by first | rfl | with_reducible assumption, ?_⟩
      replace hE6 : Ext s5 s6 := Keeps.trans (by repeat (first | assumption | exact Keeps.refl _ _ | (refine Keeps.bumpR ?_ _) | (refine Keeps.put ?_ (by assumption) (by simp only [n_bump, n_put, n_touch, n_kill] at *; omega)))) hE6
      have hN6 := hE6.n
      replace hU := hU.lt hw6
      have hbyA : ∀ x ∈ (ps.take k).flatten ++ ps[k], 0 ≤ x ∧ x < 256 := fun x hx => by
        rw [← flatF_succ ps k hlt] at hx
        obtain ⟨l, hl, hx⟩ := List.mem_flatten.1 hx
        exact hby l (List.mem_of_mem_take hl) x hx
      have hN6 := hE6.n
      refine arl_call rfl rfl rfl rfl rfl rfl ((fed_ok (by repeat (first | assumption | (refine WF.bump ?_ _))) ((hF5.up hE6).up (by repeat (first | exact Keeps.refl _ _ | (refine Keeps.bumpR ?_ _)))) hM.2 (hU.rd.up (by repeat (first | exact Keeps.refl _ _ | (refine Keeps.bumpR ?_ _)))) (fun g hg => ⟨fun h => by have := hlo g (.inl h); have := hg.1; simp only [n_bump] at this; omega, fun h => by have := hlo g (.inr h); have := hg.1; simp only [n_bump] at this; omega, by have := hF.2.1; have := hg.1; simp only [n_bump] at this; omega⟩) hbyA (by omega)).wf (by repeat (first | assumption | (refine WF.bump ?_ _) | (refine WF.put ?_ (by simp only [n_bump, n_put, n_touch, n_kill] at *; omega) (by simp only [n_bump, n_put, n_touch, n_kill] at *; omega)))) |>.mono ?_)
      rintro res s7 ⟨hw7, hn7, hE7, x, KX, KH', KB', L, fs, rfl, hxs, hO, hG, hfs, hnf, hF7⟩
      refine ⟨rfl, ?_⟩
      replace hE7 : Keeps (fun g => g = p ∨ KH g ∨ KB g) s6 s7 := Keeps.trans (Keeps.mono (G := fun _ => False) (show Ext s6 _ from (by repeat (first | exact Keeps.refl _ _ | (refine Keeps.bumpR ?_ _)))) (fun _ h => h.elim)) hE7
      have hN7 := hE7.n
      have hnbn : nb < s5.n := by omega
      have hS7 := (hS1.keep hE6 (fun h => h)).keep hE7 (fun h => by rcases h with h | h | h; omega; have := hlo nb (.inl h); omega; have := hlo nb (.inr h); omega)
      have hT7 : Ext st s7 := Keeps.call ((hE.trans hE5).trans hE6) hE7 hw (fun g hg => .inr (by rcases hg with h | h | h; omega; have := hlo g (.inl h); omega; have := hlo g (.inr h); omega))
      obtain ⟨c1, c2', c3, c4⟩ := holds_laws hM.1 hfs hnf
      repeat (first | (refine aw_seq ?_) | (refine aw_reg0 (by simp only [SZ, Nat.reduceAdd]; exact rfl) ?_) | (refine aw_reg (by decide +kernel) (by simp only [SZ, Nat.reduceAdd]; exact rfl) ?_) | (refine aw_regS (by decide +kernel) (by simp only [SZ, Nat.reduceAdd]; exact rfl) ?_) | (refine arl_nil ?_) | (refine aw_skip ?_) | (refine aw_block ?_) | (refine aw_exit ?_) | (refine aw_ret ?_) | (refine arl_cons rfl rfl (by simp +decide only [aop, abuiltin, aeval, aintBin, bin_int, aload_bump, SS, reduceIte, reduceCtorEq, f5]; exact rfl) (by first | rfl | with_reducible assumption) rfl ?_) | (refine arl_none rfl rfl (by simp +decide only [aop, abuiltin, aeval, aintBin, bin_int, aload_bump, SS, reduceIte, reduceCtorEq, f5]; exact rfl) rfl rfl ?_) | (refine arl_off rfl rfl ?_) | (refine aw_condT (by simp +decide only [aop, abuiltin, aeval, aintBin, bin_int, aload_bump, SS, reduceIte, reduceCtorEq, f5]; first | done | exact rfl) ?_) | (refine aw_condF (by simp +decide only [aop, abuiltin, aeval, aintBin, bin_int, aload_bump, SS, reduceIte, reduceCtorEq, f5]; first | done | exact rfl) ?_))
      refine arl_call rfl rfl rfl rfl rfl rfl ((fstate_ok (by repeat (first | assumption | (refine WF.bump ?_ _))) (hF7.up (by repeat (first | exact Keeps.refl _ _ | (refine Keeps.bumpR ?_ _)))) (by rw [List.length_append]; omega)).dead.wf (by repeat (first | assumption | (refine WF.bump ?_ _) | (refine WF.put ?_ (by simp only [n_bump, n_put, n_touch, n_kill] at *; omega) (by simp only [n_bump, n_put, n_touch, n_kill] at *; omega)))) |>.mono ?_)
      rintro r s8 ⟨hw8, hn8, hd8, hE8, rfl⟩
      refine ⟨rfl, ?_⟩
      replace hE8 : Ext s7 s8 := Keeps.trans (show Ext s7 _ from (by repeat (first | exact Keeps.refl _ _ | (refine Keeps.bumpR ?_ _)))) hE8
      simp only [n_bump] at hn8
      repeat (first | (refine aw_seq ?_) | (refine aw_reg0 (by simp only [SZ, Nat.reduceAdd]; exact rfl) ?_) | (refine aw_reg (by decide +kernel) (by simp only [SZ, Nat.reduceAdd]; exact rfl) ?_) | (refine aw_regS (by decide +kernel) (by simp only [SZ, Nat.reduceAdd]; exact rfl) ?_) | (refine arl_nil ?_) | (refine aw_skip ?_) | (refine aw_block ?_) | (refine aw_exit ?_) | (refine aw_ret ?_) | (refine arl_cons rfl rfl (by simp +decide only [aop, abuiltin, aeval, aintBin, bin_int, aload_bump, SS, reduceIte, reduceCtorEq]; exact rfl) (by first | rfl | with_reducible assumption) rfl ?_) | (refine arl_none rfl rfl (by simp +decide only [aop, abuiltin, aeval, aintBin, bin_int, aload_bump, SS, reduceIte, reduceCtorEq]; exact rfl) rfl rfl ?_) | (refine arl_off rfl rfl ?_) | (refine aw_condT (by simp +decide only [aop, abuiltin, aeval, aintBin, bin_int, aload_bump, SS, reduceIte, reduceCtorEq]; first | done | exact rfl) ?_) | (refine aw_condF (by simp +decide only [aop, abuiltin, aeval, aintBin, bin_int, aload_bump, SS, reduceIte, reduceCtorEq]; first | done | exact rfl) ?_))
      obtain ⟨ra, rb, rc, rd, hra, hrc⟩ : ∃ ra rb rc rd : Int, stOf ((ps.take k).flatten ++ ps[k]) (cutS (bndF most) ((ps.take k).flatten ++ ps[k])) = stT ra rb rc rd ∧ ra = (cutS (bndF most) ((ps.take k).flatten ++ ps[k])).1.length ∧ rb = (((ps.take k).flatten ++ ps[k]).length : Int) - (cutS (bndF most) ((ps.take k).flatten ++ ps[k])).2.1.length ∧ rc = (if rd = 0 then ((cutS (bndF most) ((ps.take k).flatten ++ ps[k])).2.1.length : Int) else 0) ∧ rd = (cutS (bndF most) ((ps.take k).flatten ++ ps[k])).2.2 := ⟨_, _, _, _, rfl, rfl, rfl, rfl, rfl⟩
      obtain ⟨hrA, hrB, hrC, hrD⟩ := hrc
      have hsame : qd ≠ 0 → stT ra rb rc rd = stT qa qb qc qd := fun h => by
        rw [← hra, ← hqc.1]
        exact c1 (by rw [hqd]; exact h)
      have hlenA : (((ps.take k).flatten ++ ps[k]).length : Int) = (ps.take k).flatten.length + ps[k].length := by rw [List.length_append]; omega
      have hlens := cut_lens (bndF most) ((ps.take k).flatten ++ ps[k])
      have hfsl : ra = qa + fs.length := by rw [hrA, hfs, hqc.2, List.length_append]; omega
      have hb1 : 0 ≤ rb ∧ rb ≤ (ps.take k).flatten.length + ps[k].length ∧ 0 ≤ rc ∧ rc ≤ bndF most + 4 ∧ (rd ≠ 0 → rc = 0) ∧ (rd = 0 → rb + rc = (ps.take k).flatten.length + ps[k].length) := by
        rw [hlenA] at hrB
        by_cases hz : rd = 0
        · rw [if_pos hz] at hrC
          have := c3 (by rw [← hrD]; exact hz)
          refine ⟨by omega, by omega, by omega, by omega, fun h => absurd hz h, fun _ => by omega⟩
        · rw [if_neg hz] at hrC
          refine ⟨by omega, by omega, by omega, by omega, fun _ => hrC, fun h => absurd h hz⟩
      have hqa : 0 ≤ qa ∧ ra ≤ 10000000 := ⟨by omega, by rw [hrA]; omega⟩
      rw [hra]
      refine arl_storeW (e := ST) (cs := [i64 ra, i64 rb, i64 rc, i64 rd]) rfl rfl rfl rfl rfl (get_put _ _) szST rfl rfl rfl rfl rfl ?_
      intro s9 hn9 hwf9 hK9 hg9 hD9
      obtain ⟨nc, hnc⟩ : ∃ nc, s7.n + (0 + 1 + 1) = nc := ⟨_, rfl⟩
      rw [hnc] at hwf9 hK9 hg9 hD9 ⊢
      have hw9 : WF s9 := hwf9 (WF.put hw8 (show nc < s8.n by omega) (show nc < s8.n by omega))
      have hn9' : s9.n = s8.n := by rw [hn9]; rfl
      have hput2 : ∀ o : AObj, Ext s8 (s8.put nc o) := fun o => Keeps.putF (Keeps.refl _ _) (hd8 _ (by simp only [n_bump]; omega) (fresh hw7 (by omega)))
      have hE9 : Ext s7 s9 := Keeps.call (Keeps.trans hE8 (hput2 _)) hK9 hw7 (fun g hg => .inr (by omega))
      have hS9 : Sob s9 nc ra rb rc rd := hg9
      have hB9 := (hS7.keep hE9 (fun h => h)).lds
      have hA9 := hS9.lds
      obtain ⟨A0, A1, A2, A3, A4⟩ := hA9
      obtain ⟨B0, B1, B2, B3, B4⟩ := hB9
      have hN9 := hE9.n
      have hfs9 := (oRow_rd (hO.up hE9)).rd
      have hlx := RdE.len hfs9 TRr
      have hcw : IntKind.i64.wrap (((ps.take k).flatten.length : Int) + (ps[k].length : Int)) = ((ps.take k).flatten.length : Int) + (ps[k].length : Int) := wrap64_of (by omega) (by omega)
      have hT9 : Ext st s9 := hT7.trans hE9
      have hF9 := hF7.up hE9
      rw [← hrD]
      repeat (first | (refine aw_seq ?_) | (refine aw_reg0 (by simp only [SZ, Nat.reduceAdd]; exact rfl) ?_) | (refine aw_reg (by decide +kernel) (by simp only [SZ, Nat.reduceAdd]; exact rfl) ?_) | (refine aw_regS (by decide +kernel) (by simp only [SZ, Nat.reduceAdd]; exact rfl) ?_) | (refine arl_nil ?_) | (refine aw_skip ?_) | (refine aw_block ?_) | (refine aw_exit ?_) | (refine aw_ret ?_) | (refine arl_cons rfl rfl (by simp +decide only [aop, abuiltin, aeval, aintBin, bin_int, aload_bump, SS, reduceIte, reduceCtorEq, f7, hcl, hcw, fs3]; exact rfl) (by first | rfl | with_reducible assumption) rfl ?_) | (refine arl_none rfl rfl (by simp +decide only [aop, abuiltin, aeval, aintBin, bin_int, aload_bump, SS, reduceIte, reduceCtorEq, f7, hcl, hcw, fs3]; exact rfl) rfl rfl ?_) | (refine arl_off rfl rfl ?_) | (refine aw_condT (by simp +decide only [aop, abuiltin, aeval, aintBin, bin_int, aload_bump, SS, reduceIte, reduceCtorEq, f7, hcl, hcw, fs3]; first | done | exact rfl) ?_) | (refine aw_condF (by simp +decide only [aop, abuiltin, aeval, aintBin, bin_int, aload_bump, SS, reduceIte, reduceCtorEq, f7, hcl, hcw, fs3]; first | done | exact rfl) ?_))
      have w1 : IntKind.i64.wrap (bndF most + 4) = bndF most + 4 := wrap64_of (by omega) (by omega)
      have w2 : IntKind.i64.wrap (rb + rc) = rb + rc := wrap64_of (by omega) (by omega)
      have w3 : IntKind.i64.wrap (qa + (fs.length : Int)) = qa + (fs.length : Int) := wrap64_of (by omega) (by omega)
      have g1 : decide (rc < 0) = false := decide_eq_false (by omega)
      have g2 : decide (bndF most + 4 < rc) = false := decide_eq_false (by omega)
      have g3 : (rd != rd) = false := by simp
      have g4 : decide (((ps.take k).flatten.length : Int) + (ps[k].length : Int) < rb) = false := decide_eq_false (by omega)
      have g5 : (ra != qa + (fs.length : Int)) = false := by rw [hfsl]; simp
      have key : ∃ z0 z1 : Bool, (qd != 0) = z0 ∧ (rd != 0) = z1 ∧ (rd == 0) = !z1 ∧ ((z0 = false ∧ z1 = false ∧ (rb + rc != ((ps.take k).flatten.length : Int) + (ps[k].length : Int)) = false) ∨ (z0 = false ∧ z1 = true ∧ (rc != 0) = false) ∨ (z0 = true ∧ z1 = true ∧ (rc != 0) = false ∧ (rd != qd) = false ∧ ((fs.length : Int) != 0) = false ∧ abin Try.prog .neq ST (stT ra rb rc rd) (stT qa qb qc qd) = some (.bool false))) := by
        refine ⟨_, _, rfl, rfl, by rw [bne, Bool.not_not], ?_⟩
        by_cases h1 : qd = 0
        · by_cases h2 : rd = 0
          · exact .inl ⟨by simp [h1], by simp [h2], by rw [hb1.2.2.2.2.2 h2]; simp⟩
          · exact .inr (.inl ⟨by simp [h1], by simp [h2], by rw [hb1.2.2.2.2.1 h2]; simp⟩)
        · have h2 := hsame h1
          have h3 : rd = qd := by simp only [stT, AV.agg.injEq, List.cons.injEq, i64, AV.pl.injEq, Value.int.injEq, true_and, and_true] at h2; exact h2.2.2.2
          have h4 : fs = [] := hnf (by rw [hqd]; exact h1)
          refine .inr (.inr ⟨by simp [h1], by rw [h3]; simp [h1], by rw [hb1.2.2.2.2.1 (by rw [h3]; exact h1)]; simp, by rw [h3]; simp, by rw [h4]; simp, ?_⟩)
          rw [h2]
          exact stNe _ _ _ _
      obtain ⟨z0, z1, e1, e2, e3, key⟩ := key
      rcases key with ⟨rfl, rfl, k1⟩ | ⟨rfl, rfl, k1⟩ | ⟨rfl, rfl, k1, k2, k3, k4⟩
      · repeat (first | (refine aw_seq ?_) | (refine aw_reg0 (by simp only [SZ, Nat.reduceAdd]; exact rfl) ?_) | (refine aw_reg (by decide +kernel) (by simp only [SZ, Nat.reduceAdd]; exact rfl) ?_) | (refine aw_regS (by decide +kernel) (by simp only [SZ, Nat.reduceAdd]; exact rfl) ?_) | (refine arl_nil ?_) | (refine aw_skip ?_) | (refine aw_block ?_) | (refine aw_exit ?_) | (refine aw_ret ?_) | (refine arl_cons rfl rfl (by simp +decide only [aop, abuiltin, aeval, aintBin, bin_int, aload_bump, SS, reduceIte, reduceCtorEq, fs3, B3, e1, A2, g1, fs2, f6, w1, g2, A3, g3, e2, e3, Bool.not_false, Bool.not_true, fs1, A1, w2, k1, g4, fs0, A0, B0, hlx, w3, g5]; exact rfl) (by first | rfl | with_reducible assumption) rfl ?_) | (refine arl_none rfl rfl (by simp +decide only [aop, abuiltin, aeval, aintBin, bin_int, aload_bump, SS, reduceIte, reduceCtorEq, fs3, B3, e1, A2, g1, fs2, f6, w1, g2, A3, g3, e2, e3, Bool.not_false, Bool.not_true, fs1, A1, w2, k1, g4, fs0, A0, B0, hlx, w3, g5]; exact rfl) rfl rfl ?_) | (refine arl_off rfl rfl ?_) | (refine aw_condT (by simp +decide only [aop, abuiltin, aeval, aintBin, bin_int, aload_bump, SS, reduceIte, reduceCtorEq, fs3, B3, e1, A2, g1, fs2, f6, w1, g2, A3, g3, e2, e3, Bool.not_false, Bool.not_true, fs1, A1, w2, k1, g4, fs0, A0, B0, hlx, w3, g5]; first | done | exact rfl) ?_) | (refine aw_condF (by simp +decide only [aop, abuiltin, aeval, aintBin, bin_int, aload_bump, SS, reduceIte, reduceCtorEq, fs3, B3, e1, A2, g1, fs2, f6, w1, g2, A3, g3, e2, e3, Bool.not_false, Bool.not_true, fs1, A1, w2, k1, g4, fs0, A0, B0, hlx, w3, g5]; first | done | exact rfl) ?_))
        refine aw_rounds_wf (fun m fr s => Ext s9 s ∧ ∃ j : Nat, j ≤ fs.length ∧ m = fs.length - j ∧ fr 5 = .ptr p 0 ∧ fr 6 = i64 (bndF most) ∧ fr 7 = i64 (((ps.take k).flatten.length : Int) + (ps[k].length : Int)) ∧ fr 26 = v ∧ fr 27 = i64 ps.length ∧ fr 28 = i64 k ∧ fr 118 = x ∧ fr 119 = i64 fs.length ∧ fr 120 = i64 j) ?_ fs.length _ _ (by repeat (first | assumption | (refine WF.bump ?_ _))) ?_
        · rintro m fr sy hwy ⟨hEy, j, hj, rfl, p5, p6, p7, p26, p27, p28, p118, p119, p120⟩
          by_cases hjl : j < fs.length
          · have d2 : decide ((j : Int) < (fs.length : Int)) = true := decide_eq_true (by omega)
            obtain ⟨q2, c2, b1, b2, b3, b4, b5⟩ := row_at (hfs9.up hEy) .i64 j hjl
            have hcl2 := b5.len
            have d3 : decide (bndF most < (fs[j].length : Int)) = false := decide_eq_false (by have := c2' fs[j] (List.getElem_mem hjl); omega)
            have hwk := wrap_succ (k := j) (by omega)
            repeat (first | (refine aw_seq ?_) | (refine aw_reg0 (by simp only [SZ, Nat.reduceAdd]; exact rfl) ?_) | (refine aw_reg (by decide +kernel) (by simp only [SZ, Nat.reduceAdd]; exact rfl) ?_) | (refine aw_regS (by decide +kernel) (by simp only [SZ, Nat.reduceAdd]; exact rfl) ?_) | (refine arl_nil ?_) | (refine aw_skip ?_) | (refine aw_block ?_) | (refine aw_exit ?_) | (refine aw_ret ?_) | (refine arl_cons rfl rfl (by simp +decide only [aop, abuiltin, aeval, aintBin, bin_int, aload_bump, SS, reduceIte, reduceCtorEq, p120, p119, d2, p118, b1, b3, hcl2, p6, d3, hwk]; exact rfl) (by first | rfl | with_reducible assumption) rfl ?_) | (refine arl_none rfl rfl (by simp +decide only [aop, abuiltin, aeval, aintBin, bin_int, aload_bump, SS, reduceIte, reduceCtorEq, p120, p119, d2, p118, b1, b3, hcl2, p6, d3, hwk]; exact rfl) rfl rfl ?_) | (refine arl_off rfl rfl ?_) | (refine aw_condT (by simp +decide only [aop, abuiltin, aeval, aintBin, bin_int, aload_bump, SS, reduceIte, reduceCtorEq, p120, p119, d2, p118, b1, b3, hcl2, p6, d3, hwk]; first | done | exact rfl) ?_) | (refine aw_condF (by simp +decide only [aop, abuiltin, aeval, aintBin, bin_int, aload_bump, SS, reduceIte, reduceCtorEq, p120, p119, d2, p118, b1, b3, hcl2, p6, d3, hwk]; first | done | exact rfl) ?_))
            exact ⟨fs.length - (j + 1), by omega, hEy.trans (by repeat (first | exact Keeps.refl _ _ | (refine Keeps.bumpR ?_ _))), j + 1, by omega, rfl, p5, p6, p7, p26, p27, p28, p118, p119, rfl⟩
          · have d2 : decide ((j : Int) < (fs.length : Int)) = false := decide_eq_false (by omega)
            have hwk := wrap_succ (k := k) (by omega)
            repeat (first | (refine aw_seq ?_) | (refine aw_reg0 (by simp only [SZ, Nat.reduceAdd]; exact rfl) ?_) | (refine aw_reg (by decide +kernel) (by simp only [SZ, Nat.reduceAdd]; exact rfl) ?_) | (refine aw_regS (by decide +kernel) (by simp only [SZ, Nat.reduceAdd]; exact rfl) ?_) | (refine arl_nil ?_) | (refine aw_skip ?_) | (refine aw_block ?_) | (refine aw_exit ?_) | (refine aw_ret ?_) | (refine arl_cons rfl rfl (by simp +decide only [aop, abuiltin, aeval, aintBin, bin_int, aload_bump, SS, reduceIte, reduceCtorEq, p120, p119, d2, p28, hwk]; exact rfl) (by first | rfl | with_reducible assumption) rfl ?_) | (refine arl_none rfl rfl (by simp +decide only [aop, abuiltin, aeval, aintBin, bin_int, aload_bump, SS, reduceIte, reduceCtorEq, p120, p119, d2, p28, hwk]; exact rfl) rfl rfl ?_) | (refine arl_off rfl rfl ?_) | (refine aw_condT (by simp +decide only [aop, abuiltin, aeval, aintBin, bin_int, aload_bump, SS, reduceIte, reduceCtorEq, p120, p119, d2, p28, hwk]; first | done | exact rfl) ?_) | (refine aw_condF (by simp +decide only [aop, abuiltin, aeval, aintBin, bin_int, aload_bump, SS, reduceIte, reduceCtorEq, p120, p119, d2, p28, hwk]; first | done | exact rfl) ?_))
            refine ⟨ps.length - (k + 1), by omega, (hT9.trans hEy).trans (by repeat (first | exact Keeps.refl _ _ | (refine Keeps.bumpR ?_ _))), k + 1, KH', KB', by omega, rfl, p5, p6, ?_, p26, p27, rfl, ?_⟩
            · rw [flatF_succ ps k hlt, hlenA]
              exact p7
            · rw [flatF_succ ps k hlt]; exact (hF9.up hEy).up (by repeat (first | exact Keeps.refl _ _ | (refine Keeps.bumpR ?_ _)))
        · exact ⟨(by repeat (first | exact Keeps.refl _ _ | (refine Keeps.bumpR ?_ _))), 0, by omega, rfl, f5, f6, rfl, f26, f27, f28, rfl, rfl, rfl⟩
      · repeat (first | (refine aw_seq ?_) | (refine aw_reg0 (by simp only [SZ, Nat.reduceAdd]; exact rfl) ?_) | (refine aw_reg (by decide +kernel) (by simp only [SZ, Nat.reduceAdd]; exact rfl) ?_) | (refine aw_regS (by decide +kernel) (by simp only [SZ, Nat.reduceAdd]; exact rfl) ?_) | (refine arl_nil ?_) | (refine aw_skip ?_) | (refine aw_block ?_) | (refine aw_exit ?_) | (refine aw_ret ?_) | (refine arl_cons rfl rfl (by simp +decide only [aop, abuiltin, aeval, aintBin, bin_int, aload_bump, SS, reduceIte, reduceCtorEq, fs3, B3, e1, A2, g1, fs2, f6, w1, g2, A3, g3, e2, k1, e3, Bool.not_false, Bool.not_true, fs1, A1, g4, fs0, A0, B0, hlx, w3, g5]; exact rfl) (by first | rfl | with_reducible assumption) rfl ?_) | (refine arl_none rfl rfl (by simp +decide only [aop, abuiltin, aeval, aintBin, bin_int, aload_bump, SS, reduceIte, reduceCtorEq, fs3, B3, e1, A2, g1, fs2, f6, w1, g2, A3, g3, e2, k1, e3, Bool.not_false, Bool.not_true, fs1, A1, g4, fs0, A0, B0, hlx, w3, g5]; exact rfl) rfl rfl ?_) | (refine arl_off rfl rfl ?_) | (refine aw_condT (by simp +decide only [aop, abuiltin, aeval, aintBin, bin_int, aload_bump, SS, reduceIte, reduceCtorEq, fs3, B3, e1, A2, g1, fs2, f6, w1, g2, A3, g3, e2, k1, e3, Bool.not_false, Bool.not_true, fs1, A1, g4, fs0, A0, B0, hlx, w3, g5]; first | done | exact rfl) ?_) | (refine aw_condF (by simp +decide only [aop, abuiltin, aeval, aintBin, bin_int, aload_bump, SS, reduceIte, reduceCtorEq, fs3, B3, e1, A2, g1, fs2, f6, w1, g2, A3, g3, e2, k1, e3, Bool.not_false, Bool.not_true, fs1, A1, g4, fs0, A0, B0, hlx, w3, g5]; first | done | exact rfl) ?_))
        refine aw_rounds_wf (fun m fr s => Ext s9 s ∧ ∃ j : Nat, j ≤ fs.length ∧ m = fs.length - j ∧ fr 5 = .ptr p 0 ∧ fr 6 = i64 (bndF most) ∧ fr 7 = i64 (((ps.take k).flatten.length : Int) + (ps[k].length : Int)) ∧ fr 26 = v ∧ fr 27 = i64 ps.length ∧ fr 28 = i64 k ∧ fr 118 = x ∧ fr 119 = i64 fs.length ∧ fr 120 = i64 j) ?_ fs.length _ _ (by repeat (first | assumption | (refine WF.bump ?_ _))) ?_
        · rintro m fr sy hwy ⟨hEy, j, hj, rfl, p5, p6, p7, p26, p27, p28, p118, p119, p120⟩
          by_cases hjl : j < fs.length
          · have d2 : decide ((j : Int) < (fs.length : Int)) = true := decide_eq_true (by omega)
            obtain ⟨q2, c2, b1, b2, b3, b4, b5⟩ := row_at (hfs9.up hEy) .i64 j hjl
            have hcl2 := b5.len
            have d3 : decide (bndF most < (fs[j].length : Int)) = false := decide_eq_false (by have := c2' fs[j] (List.getElem_mem hjl); omega)
            have hwk := wrap_succ (k := j) (by omega)
            repeat (first | (refine aw_seq ?_) | (refine aw_reg0 (by simp only [SZ, Nat.reduceAdd]; exact rfl) ?_) | (refine aw_reg (by decide +kernel) (by simp only [SZ, Nat.reduceAdd]; exact rfl) ?_) | (refine aw_regS (by decide +kernel) (by simp only [SZ, Nat.reduceAdd]; exact rfl) ?_) | (refine arl_nil ?_) | (refine aw_skip ?_) | (refine aw_block ?_) | (refine aw_exit ?_) | (refine aw_ret ?_) | (refine arl_cons rfl rfl (by simp +decide only [aop, abuiltin, aeval, aintBin, bin_int, aload_bump, SS, reduceIte, reduceCtorEq, p120, p119, d2, p118, b1, b3, hcl2, p6, d3, hwk]; exact rfl) (by first | rfl | with_reducible assumption) rfl ?_) | (refine arl_none rfl rfl (by simp +decide only [aop, abuiltin, aeval, aintBin, bin_int, aload_bump, SS, reduceIte, reduceCtorEq, p120, p119, d2, p118, b1, b3, hcl2, p6, d3, hwk]; exact rfl) rfl rfl ?_) | (refine arl_off rfl rfl ?_) | (refine aw_condT (by simp +decide only [aop, abuiltin, aeval, aintBin, bin_int, aload_bump, SS, reduceIte, reduceCtorEq, p120, p119, d2, p118, b1, b3, hcl2, p6, d3, hwk]; first | done | exact rfl) ?_) | (refine aw_condF (by simp +decide only [aop, abuiltin, aeval, aintBin, bin_int, aload_bump, SS, reduceIte, reduceCtorEq, p120, p119, d2, p118, b1, b3, hcl2, p6, d3, hwk]; first | done | exact rfl) ?_))
            exact ⟨fs.length - (j + 1), by omega, hEy.trans (by repeat (first | exact Keeps.refl _ _ | (refine Keeps.bumpR ?_ _))), j + 1, by omega, rfl, p5, p6, p7, p26, p27, p28, p118, p119, rfl⟩
          · have d2 : decide ((j : Int) < (fs.length : Int)) = false := decide_eq_false (by omega)
            have hwk := wrap_succ (k := k) (by omega)
            repeat (first | (refine aw_seq ?_) | (refine aw_reg0 (by simp only [SZ, Nat.reduceAdd]; exact rfl) ?_) | (refine aw_reg (by decide +kernel) (by simp only [SZ, Nat.reduceAdd]; exact rfl) ?_) | (refine aw_regS (by decide +kernel) (by simp only [SZ, Nat.reduceAdd]; exact rfl) ?_) | (refine arl_nil ?_) | (refine aw_skip ?_) | (refine aw_block ?_) | (refine aw_exit ?_) | (refine aw_ret ?_) | (refine arl_cons rfl rfl (by simp +decide only [aop, abuiltin, aeval, aintBin, bin_int, aload_bump, SS, reduceIte, reduceCtorEq, p120, p119, d2, p28, hwk]; exact rfl) (by first | rfl | with_reducible assumption) rfl ?_) | (refine arl_none rfl rfl (by simp +decide only [aop, abuiltin, aeval, aintBin, bin_int, aload_bump, SS, reduceIte, reduceCtorEq, p120, p119, d2, p28, hwk]; exact rfl) rfl rfl ?_) | (refine arl_off rfl rfl ?_) | (refine aw_condT (by simp +decide only [aop, abuiltin, aeval, aintBin, bin_int, aload_bump, SS, reduceIte, reduceCtorEq, p120, p119, d2, p28, hwk]; first | done | exact rfl) ?_) | (refine aw_condF (by simp +decide only [aop, abuiltin, aeval, aintBin, bin_int, aload_bump, SS, reduceIte, reduceCtorEq, p120, p119, d2, p28, hwk]; first | done | exact rfl) ?_))
            refine ⟨ps.length - (k + 1), by omega, (hT9.trans hEy).trans (by repeat (first | exact Keeps.refl _ _ | (refine Keeps.bumpR ?_ _))), k + 1, KH', KB', by omega, rfl, p5, p6, ?_, p26, p27, rfl, ?_⟩
            · rw [flatF_succ ps k hlt, hlenA]
              exact p7
            · rw [flatF_succ ps k hlt]; exact (hF9.up hEy).up (by repeat (first | exact Keeps.refl _ _ | (refine Keeps.bumpR ?_ _)))
        · exact ⟨(by repeat (first | exact Keeps.refl _ _ | (refine Keeps.bumpR ?_ _))), 0, by omega, rfl, f5, f6, rfl, f26, f27, f28, rfl, rfl, rfl⟩
      · repeat (first | (refine aw_seq ?_) | (refine aw_reg0 (by simp only [SZ, Nat.reduceAdd]; exact rfl) ?_) | (refine aw_reg (by decide +kernel) (by simp only [SZ, Nat.reduceAdd]; exact rfl) ?_) | (refine aw_regS (by decide +kernel) (by simp only [SZ, Nat.reduceAdd]; exact rfl) ?_) | (refine arl_nil ?_) | (refine aw_skip ?_) | (refine aw_block ?_) | (refine aw_exit ?_) | (refine aw_ret ?_) | (refine arl_cons rfl rfl (by simp +decide only [aop, abuiltin, aeval, aintBin, bin_int, aload_bump, SS, reduceIte, reduceCtorEq, fs3, B3, e1, A4, B4, k4, hlx, k3, k2, A2, g1, fs2, f6, w1, g2, A3, g3, e2, k1, e3, Bool.not_false, Bool.not_true, fs1, A1, g4, fs0, A0, B0, w3, g5]; exact rfl) (by first | rfl | with_reducible assumption) rfl ?_) | (refine arl_none rfl rfl (by simp +decide only [aop, abuiltin, aeval, aintBin, bin_int, aload_bump, SS, reduceIte, reduceCtorEq, fs3, B3, e1, A4, B4, k4, hlx, k3, k2, A2, g1, fs2, f6, w1, g2, A3, g3, e2, k1, e3, Bool.not_false, Bool.not_true, fs1, A1, g4, fs0, A0, B0, w3, g5]; exact rfl) rfl rfl ?_) | (refine arl_off rfl rfl ?_) | (refine aw_condT (by simp +decide only [aop, abuiltin, aeval, aintBin, bin_int, aload_bump, SS, reduceIte, reduceCtorEq, fs3, B3, e1, A4, B4, k4, hlx, k3, k2, A2, g1, fs2, f6, w1, g2, A3, g3, e2, k1, e3, Bool.not_false, Bool.not_true, fs1, A1, g4, fs0, A0, B0, w3, g5]; first | done | exact rfl) ?_) | (refine aw_condF (by simp +decide only [aop, abuiltin, aeval, aintBin, bin_int, aload_bump, SS, reduceIte, reduceCtorEq, fs3, B3, e1, A4, B4, k4, hlx, k3, k2, A2, g1, fs2, f6, w1, g2, A3, g3, e2, k1, e3, Bool.not_false, Bool.not_true, fs1, A1, g4, fs0, A0, B0, w3, g5]; first | done | exact rfl) ?_))
        refine aw_rounds_wf (fun m fr s => Ext s9 s ∧ ∃ j : Nat, j ≤ fs.length ∧ m = fs.length - j ∧ fr 5 = .ptr p 0 ∧ fr 6 = i64 (bndF most) ∧ fr 7 = i64 (((ps.take k).flatten.length : Int) + (ps[k].length : Int)) ∧ fr 26 = v ∧ fr 27 = i64 ps.length ∧ fr 28 = i64 k ∧ fr 118 = x ∧ fr 119 = i64 fs.length ∧ fr 120 = i64 j) ?_ fs.length _ _ (by repeat (first | assumption | (refine WF.bump ?_ _))) ?_
        · rintro m fr sy hwy ⟨hEy, j, hj, rfl, p5, p6, p7, p26, p27, p28, p118, p119, p120⟩
          by_cases hjl : j < fs.length
          · have d2 : decide ((j : Int) < (fs.length : Int)) = true := decide_eq_true (by omega)
            obtain ⟨q2, c2, b1, b2, b3, b4, b5⟩ := row_at (hfs9.up hEy) .i64 j hjl
            have hcl2 := b5.len
            have d3 : decide (bndF most < (fs[j].length : Int)) = false := decide_eq_false (by have := c2' fs[j] (List.getElem_mem hjl); omega)
            have hwk := wrap_succ (k := j) (by omega)
            repeat (first | (refine aw_seq ?_) | (refine aw_reg0 (by simp only [SZ, Nat.reduceAdd]; exact rfl) ?_) | (refine aw_reg (by decide +kernel) (by simp only [SZ, Nat.reduceAdd]; exact rfl) ?_) | (refine aw_regS (by decide +kernel) (by simp only [SZ, Nat.reduceAdd]; exact rfl) ?_) | (refine arl_nil ?_) | (refine aw_skip ?_) | (refine aw_block ?_) | (refine aw_exit ?_) | (refine aw_ret ?_) | (refine arl_cons rfl rfl (by simp +decide only [aop, abuiltin, aeval, aintBin, bin_int, aload_bump, SS, reduceIte, reduceCtorEq, p120, p119, d2, p118, b1, b3, hcl2, p6, d3, hwk]; exact rfl) (by first | rfl | with_reducible assumption) rfl ?_) | (refine arl_none rfl rfl (by simp +decide only [aop, abuiltin, aeval, aintBin, bin_int, aload_bump, SS, reduceIte, reduceCtorEq, p120, p119, d2, p118, b1, b3, hcl2, p6, d3, hwk]; exact rfl) rfl rfl ?_) | (refine arl_off rfl rfl ?_) | (refine aw_condT (by simp +decide only [aop, abuiltin, aeval, aintBin, bin_int, aload_bump, SS, reduceIte, reduceCtorEq, p120, p119, d2, p118, b1, b3, hcl2, p6, d3, hwk]; first | done | exact rfl) ?_) | (refine aw_condF (by simp +decide only [aop, abuiltin, aeval, aintBin, bin_int, aload_bump, SS, reduceIte, reduceCtorEq, p120, p119, d2, p118, b1, b3, hcl2, p6, d3, hwk]; first | done | exact rfl) ?_))
            exact ⟨fs.length - (j + 1), by omega, hEy.trans (by repeat (first | exact Keeps.refl _ _ | (refine Keeps.bumpR ?_ _))), j + 1, by omega, rfl, p5, p6, p7, p26, p27, p28, p118, p119, rfl⟩
          · have d2 : decide ((j : Int) < (fs.length : Int)) = false := decide_eq_false (by omega)
            have hwk := wrap_succ (k := k) (by omega)
            repeat (first | (refine aw_seq ?_) | (refine aw_reg0 (by simp only [SZ, Nat.reduceAdd]; exact rfl) ?_) | (refine aw_reg (by decide +kernel) (by simp only [SZ, Nat.reduceAdd]; exact rfl) ?_) | (refine aw_regS (by decide +kernel) (by simp only [SZ, Nat.reduceAdd]; exact rfl) ?_) | (refine arl_nil ?_) | (refine aw_skip ?_) | (refine aw_block ?_) | (refine aw_exit ?_) | (refine aw_ret ?_) | (refine arl_cons rfl rfl (by simp +decide only [aop, abuiltin, aeval, aintBin, bin_int, aload_bump, SS, reduceIte, reduceCtorEq, p120, p119, d2, p28, hwk]; exact rfl) (by first | rfl | with_reducible assumption) rfl ?_) | (refine arl_none rfl rfl (by simp +decide only [aop, abuiltin, aeval, aintBin, bin_int, aload_bump, SS, reduceIte, reduceCtorEq, p120, p119, d2, p28, hwk]; exact rfl) rfl rfl ?_) | (refine arl_off rfl rfl ?_) | (refine aw_condT (by simp +decide only [aop, abuiltin, aeval, aintBin, bin_int, aload_bump, SS, reduceIte, reduceCtorEq, p120, p119, d2, p28, hwk]; first | done | exact rfl) ?_) | (refine aw_condF (by simp +decide only [aop, abuiltin, aeval, aintBin, bin_int, aload_bump, SS, reduceIte, reduceCtorEq, p120, p119, d2, p28, hwk]; first | done | exact rfl) ?_))
            refine ⟨ps.length - (k + 1), by omega, (hT9.trans hEy).trans (by repeat (first | exact Keeps.refl _ _ | (refine Keeps.bumpR ?_ _))), k + 1, KH', KB', by omega, rfl, p5, p6, ?_, p26, p27, rfl, ?_⟩
            · rw [flatF_succ ps k hlt, hlenA]
              exact p7
            · rw [flatF_succ ps k hlt]; exact (hF9.up hEy).up (by repeat (first | exact Keeps.refl _ _ | (refine Keeps.bumpR ?_ _)))
        · exact ⟨(by repeat (first | exact Keeps.refl _ _ | (refine Keeps.bumpR ?_ _))), 0, by omega, rfl, f5, f6, rfl, f26, f27, f28, rfl, rfl, rfl⟩
    · have d1 : decide ((k : Int) < (ps.length : Int)) = false := decide_eq_false (by omega)
      repeat (first | (refine aw_seq ?_) | (refine aw_reg0 (by simp only [SZ, Nat.reduceAdd]; exact rfl) ?_) | (refine aw_reg (by decide +kernel) (by simp only [SZ, Nat.reduceAdd]; exact rfl) ?_) | (refine aw_regS (by decide +kernel) (by simp only [SZ, Nat.reduceAdd]; exact rfl) ?_) | (refine arl_nil ?_) | (refine aw_skip ?_) | (refine aw_block ?_) | (refine aw_exit ?_) | (refine aw_ret ?_) | (refine arl_cons rfl rfl (by simp +decide only [aop, abuiltin, aeval, aintBin, bin_int, aload_bump, SS, reduceIte, reduceCtorEq, f28, f27, d1]; exact rfl) (by first | rfl | with_reducible assumption) rfl ?_) | (refine arl_none rfl rfl (by simp +decide only [aop, abuiltin, aeval, aintBin, bin_int, aload_bump, SS, reduceIte, reduceCtorEq, f28, f27, d1]; exact rfl) rfl rfl ?_) | (refine arl_off rfl rfl ?_) | (refine aw_condT (by simp +decide only [aop, abuiltin, aeval, aintBin, bin_int, aload_bump, SS, reduceIte, reduceCtorEq, f28, f27, d1]; first | done | exact rfl) ?_) | (refine aw_condF (by simp +decide only [aop, abuiltin, aeval, aintBin, bin_int, aload_bump, SS, reduceIte, reduceCtorEq, f28, f27, d1]; first | done | exact rfl) ?_))
      exact ⟨.inr rfl, _, rfl, rfl⟩
  · refine ⟨(hE12.trans hE3).trans (by repeat (first | exact Keeps.refl _ _ | (refine Keeps.bumpR ?_ _))), 0, fun _ => False, fun _ => False, by omega, rfl, rfl, rfl, rfl, rfl, rfl, rfl, ?_⟩
    rw [List.take_zero]; exact hF3.up (by repeat (first | exact Keeps.refl _ _ | (refine Keeps.bumpR ?_ _)))
theorem FrameHolds_small {st : St} (hw : WF st) (most : Int) (gm : (Lit.int .i64 most).wf = true) {v : AV} {ps : List (List Int)} (h : RdL st (fun _ => True) 1 (fun cs xs => ∃ v, cs = [v] ∧ RdL st (fun _ => True) 1 (fun cs n => cs = [.pl (.int .u8 n)]) v xs) v ps)
    (good : ∀ x ∈ ps, ∀ y ∈ x, (Lit.int .u8 y).wf = true) (hb : 1 + ((ps.map fun xs : List Int => (xs.map fun _ => 1).sum + 1).sum + 1) ≤ 1048576) : ACalls Try.prog 4 [i64 most, v] st (fun r s => r = .pl (.bool true)) := by
  rw [sum_flat] at hb
  exact holds_ok hw most (rows_of h) (by omega) (fun p hp x hx => wfu8 (good p hp x hx))
end Go.Proofs.Ytoccmjhgmoandaa.Ra
