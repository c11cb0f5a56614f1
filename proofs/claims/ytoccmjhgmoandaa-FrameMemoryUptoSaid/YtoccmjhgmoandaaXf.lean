/- leatref17: Bound, Cut, Alike, All. -/
import Derived.Test.YtoccmjhgmoandaaXe
import Derived.Test.YtoccmjhgmoandaaSl
import Derived.Test.YtoccmjhgmoandaaSo
namespace Go.Proofs.Ytoccmjhgmoandaa.Ra
open Go Go.RowKit
set_option linter.unusedVariables false
set_option linter.unusedSimpArgs false
set_option maxRecDepth 10000
def bndF (m : Int) : Int := min (max m 0) 131072
theorem rbound_ok {st : St} (m : Int) : ACalls Try.prog 18 [i64 m] st (fun r s => Ext st s ∧ r = i64 (bndF m)) := by
  refine acalls_of Try.func18 rfl (by kernel_rfl) rfl ?_
  by_cases h0 : m < 0
  · have d1 : decide (m < 0) = true := decide_eq_true h0
    repeat (first | (refine aw_seq ?_) | (refine aw_reg0 (by simp only [SZ, Nat.reduceAdd]; exact rfl) ?_) | (refine aw_reg (by decide +kernel) (by simp only [SZ, Nat.reduceAdd]; exact rfl) ?_) | (refine aw_regS (by decide +kernel) (by simp only [SZ, Nat.reduceAdd]; exact rfl) ?_) | (refine arl_nil ?_) | (refine aw_skip ?_) | (refine aw_block ?_) | (refine aw_exit ?_) | (refine aw_ret ?_) | (refine arl_cons rfl rfl (by simp +decide only [aop, abuiltin, aeval, aintBin, bin_int, aload_bump, SS, reduceIte, reduceCtorEq, d1]; exact rfl) (by first | rfl | with_reducible assumption) rfl ?_) | (refine arl_none rfl rfl (by simp +decide only [aop, abuiltin, aeval, aintBin, bin_int, aload_bump, SS, reduceIte, reduceCtorEq, d1]; exact rfl) rfl rfl ?_) | (refine arl_off rfl rfl ?_) | (refine aw_condT (by simp +decide only [aop, abuiltin, aeval, aintBin, bin_int, aload_bump, SS, reduceIte, reduceCtorEq, d1]; first | done | exact rfl) ?_) | (refine aw_condF (by simp +decide only [aop, abuiltin, aeval, aintBin, bin_int, aload_bump, SS, reduceIte, reduceCtorEq, d1]; first | done | exact rfl) ?_))
    exact ⟨.inr rfl, _, rfl, (by repeat (first | exact Keeps.refl _ _ | (refine Keeps.bumpR ?_ _))), by unfold bndF; rw [show min (max m 0) 131072 = 0 by omega]; rfl⟩
  · have d1 : decide (m < 0) = false := decide_eq_false h0
    by_cases h1 : m > 131072
    · have d2 : decide (m > 131072) = true := decide_eq_true h1
      repeat (first | (refine aw_seq ?_) | (refine aw_reg0 (by simp only [SZ, Nat.reduceAdd]; exact rfl) ?_) | (refine aw_reg (by decide +kernel) (by simp only [SZ, Nat.reduceAdd]; exact rfl) ?_) | (refine aw_regS (by decide +kernel) (by simp only [SZ, Nat.reduceAdd]; exact rfl) ?_) | (refine arl_nil ?_) | (refine aw_skip ?_) | (refine aw_block ?_) | (refine aw_exit ?_) | (refine aw_ret ?_) | (refine arl_cons rfl rfl (by simp +decide only [aop, abuiltin, aeval, aintBin, bin_int, aload_bump, SS, reduceIte, reduceCtorEq, d1, d2]; exact rfl) (by first | rfl | with_reducible assumption) rfl ?_) | (refine arl_none rfl rfl (by simp +decide only [aop, abuiltin, aeval, aintBin, bin_int, aload_bump, SS, reduceIte, reduceCtorEq, d1, d2]; exact rfl) rfl rfl ?_) | (refine arl_off rfl rfl ?_) | (refine aw_condT (by simp +decide only [aop, abuiltin, aeval, aintBin, bin_int, aload_bump, SS, reduceIte, reduceCtorEq, d1, d2]; first | done | exact rfl) ?_) | (refine aw_condF (by simp +decide only [aop, abuiltin, aeval, aintBin, bin_int, aload_bump, SS, reduceIte, reduceCtorEq, d1, d2]; first | done | exact rfl) ?_))
      exact ⟨.inr rfl, _, rfl, (by repeat (first | exact Keeps.refl _ _ | (refine Keeps.bumpR ?_ _))), by unfold bndF; rw [show min (max m 0) 131072 = 131072 by omega]; rfl⟩
    · have d2 : decide (m > 131072) = false := decide_eq_false h1
      repeat (first | (refine aw_seq ?_) | (refine aw_reg0 (by simp only [SZ, Nat.reduceAdd]; exact rfl) ?_) | (refine aw_reg (by decide +kernel) (by simp only [SZ, Nat.reduceAdd]; exact rfl) ?_) | (refine aw_regS (by decide +kernel) (by simp only [SZ, Nat.reduceAdd]; exact rfl) ?_) | (refine arl_nil ?_) | (refine aw_skip ?_) | (refine aw_block ?_) | (refine aw_exit ?_) | (refine aw_ret ?_) | (refine arl_cons rfl rfl (by simp +decide only [aop, abuiltin, aeval, aintBin, bin_int, aload_bump, SS, reduceIte, reduceCtorEq, d1, d2]; exact rfl) (by first | rfl | with_reducible assumption) rfl ?_) | (refine arl_none rfl rfl (by simp +decide only [aop, abuiltin, aeval, aintBin, bin_int, aload_bump, SS, reduceIte, reduceCtorEq, d1, d2]; exact rfl) rfl rfl ?_) | (refine arl_off rfl rfl ?_) | (refine aw_condT (by simp +decide only [aop, abuiltin, aeval, aintBin, bin_int, aload_bump, SS, reduceIte, reduceCtorEq, d1, d2]; first | done | exact rfl) ?_) | (refine aw_condF (by simp +decide only [aop, abuiltin, aeval, aintBin, bin_int, aload_bump, SS, reduceIte, reduceCtorEq, d1, d2]; first | done | exact rfl) ?_))
      exact ⟨.inr rfl, _, rfl, (by repeat (first | exact Keeps.refl _ _ | (refine Keeps.bumpR ?_ _))), by unfold bndF; rw [show min (max m 0) 131072 = m by omega]; rfl⟩
/-- What a stream's state is. -/
def stOf (b : List Int) (q : List (List Int) × List Int × Int) : AV := stT q.1.length ((b.length : Int) - q.2.1.length) (if q.2.2 = 0 then q.2.1.length else 0) q.2.2
theorem bldS3 (a b c : Int) : abuild Try.prog ST [(0, i64 a), (1, i64 b), (2, i64 c)] = some (stT a b c 0) := by kernel_rfl
theorem bldSe (a b c : Int) : abuild Try.prog ST [(0, i64 a), (1, i64 b), (3, i64 c)] = some (stT a b 0 c) := by kernel_rfl
theorem bldS2 (a b : Int) : abuild Try.prog ST [(0, i64 a), (1, i64 b)] = some (stT a b 0 0) := by kernel_rfl
theorem litF0 (id : Nat) : abuildSlice Try.prog 22 id 0 [] = some (.sl id 0 0 1, ⟨[], BT, true, id⟩) := lits_one TR id [] (by simp) (by decide)
theorem stOf_at {b : List Int} {at_ : Nat} (fk : List (List Int)) (e : Int) (h : at_ ≤ b.length) : stOf b (fk ++ [], b.drop at_, e) = stT fk.length at_ (if e = 0 then (b.length : Int) - at_ else 0) e := by
  have h1 : ((b.drop at_).length : Int) = (b.length : Int) - at_ := by rw [List.length_drop]; omega
  unfold stOf
  simp only [List.append_nil, h1]
  rw [show (b.length : Int) - ((b.length : Int) - at_) = at_ by omega]
set_option maxHeartbeats 4000000 in
theorem rcut_ok {st : St} (hw : WF st) {K : Nat → Prop} {v : AV} {b : List Int} (most : Int) (h : RdB st K v b) (hl : b.length ≤ 10000000) (hby : ∀ x ∈ b, 0 ≤ x ∧ x < 256) :
    ACalls Try.prog 15 [i64 most, v] st (fun r s => Ext st s ∧ ∃ x, r = .tup [x, stOf b (cutS (bndF most) b)] ∧ x.solid = true ∧ RdE rowK s (fun g => st.n ≤ g) x (cutS (bndF most) b).1) := by
  replace h := h.lt hw
  have hvs := h.solid
  have hln := h.len
  have hM : 0 ≤ bndF most ∧ bndF most ≤ 131072 := by unfold bndF; omega
  refine acalls_of Try.func15 rfl (by kernel_rfl) (by simp [hvs]; rfl) ?_
  repeat (first | (refine aw_seq ?_) | (refine aw_reg0 (by simp only [SZ, Nat.reduceAdd]; exact rfl) ?_) | (refine aw_reg (by decide +kernel) (by simp only [SZ, Nat.reduceAdd]; exact rfl) ?_) | (refine aw_regS (by decide +kernel) (by simp only [SZ, Nat.reduceAdd]; exact rfl) ?_) | (refine arl_nil ?_) | (refine aw_skip ?_) | (refine aw_block ?_) | (refine aw_exit ?_) | (refine aw_ret ?_) | (refine arl_cons rfl rfl (by simp +decide only [aop, abuiltin, aeval, aintBin, bin_int, aload_bump, SS, reduceIte, reduceCtorEq, litF0]; exact rfl) (by first | rfl | with_reducible assumption) rfl ?_) | (refine arl_none rfl rfl (by simp +decide only [aop, abuiltin, aeval, aintBin, bin_int, aload_bump, SS, reduceIte, reduceCtorEq, litF0]; exact rfl) rfl rfl ?_) | (refine arl_off rfl rfl ?_) | (refine aw_condT (by simp +decide only [aop, abuiltin, aeval, aintBin, bin_int, aload_bump, SS, reduceIte, reduceCtorEq, litF0]; first | done | exact rfl) ?_) | (refine aw_condF (by simp +decide only [aop, abuiltin, aeval, aintBin, bin_int, aload_bump, SS, reduceIte, reduceCtorEq, litF0]; first | done | exact rfl) ?_))
  refine aw_hide ?_
  intro s0 hs0
  obtain ⟨c0, g0, hc0, hg0, hcg, hE0, hw0, hgC, hO0⟩ : ∃ c0 g0, c0 = st.n + 1 ∧ g0 = st.n + 2 ∧ c0 < g0 ∧ Ext st s0 ∧ WF s0 ∧ s0.get c0 = some ⟨[i64 0, i64 0, i64 0, i64 0], ST, true, c0⟩ ∧ OwX rowK s0 (fun g => g = g0) (fun _ g => g0 < g) BT (.sl g0 0 0 1) [] := by
    subst hs0
    refine ⟨st.n + (0 + 1), (st.bump 2).n + 0, by omega, by simp only [n_bump], by simp only [n_bump]; omega, ((((show Ext st (st.bump 2) from (by repeat (first | exact Keeps.refl _ _ | (refine Keeps.bumpR ?_ _)))).put hw (by omega)).bumpR _).put hw (by simp only [n_bump, n_put]; omega)).bumpR _, (((WF.put (hw.bump 2) (by simp only [n_bump]; omega) (by simp only [n_bump]; omega)).bump 2).put (by simp only [n_bump, n_put]; omega) (by simp only [n_bump, n_put]; omega)).bump 1, (get_put_ne _ (by simp only [n_bump, n_put]; omega)).trans (get_put _ _), OwX.new' (k := rowK) _ (get_put _ _)⟩
  have hgl : g0 < s0.n := by
    rcases hO0 with ⟨_, h⟩ | ⟨i, g, cs, _, h2, h3, _⟩
    · cases h
    · have := (hw0 i _ h2).2; rw [← h3]; exact this
  clear hs0
  have hN0 := hE0.n
  generalize hq : cutS (bndF most) b = q at *
  refine aw_rounds_wf (fun m fr s => Keeps (fun g => g = g0) s0 s ∧ ∃ (at_ : Nat) (fk : List (List Int)), at_ ≤ b.length ∧ m = b.length - at_ ∧ 4 * fk.length ≤ at_ ∧ fr 0 = i64 most ∧ fr 1 = v ∧ fr 5 = .ptr c0 0 ∧ fr 6 ≠ .pl (.slice none 0 0) ∧ fr 7 = i64 at_ ∧ OwX rowK s (fun g => g = g0) (fun _ g => g0 < g) BT (fr 6) fk ∧ q = (fk ++ (cutS (bndF most) (b.drop at_)).1, (cutS (bndF most) (b.drop at_)).2)) ?_ b.length _ _ (by repeat (first | assumption | (refine WF.bump ?_ _))) ?_
  · rintro m fr sx hws ⟨hE, at_, fk, hat, rfl, hfk, f0, f1, f5, fn, f7, hO, hqe⟩
    have hEn := hE.n
    obtain ⟨xo, f6⟩ : ∃ x, fr 6 = x := ⟨_, rfl⟩
    rw [f6] at hO fn
    have hxs := hO.solid
    have hlx := RdE.len hO.rd (show TF Try.prog 22 BT rowK.s 24 from TR)
    have hbs := (h.up hE0).keep hE (fun g hg he => by have := hg.2; omega)
    have d1 : decide ((at_ : Int) ≤ (b.length : Int)) = true := decide_eq_true (by omega)
    have hgC' := hE.get _ _ hgC (by simp only; omega)
    have hrl : (b.drop at_).length = b.length - at_ := List.length_drop
    have hSx : Ext st sx := Keeps.call hE0 hE hw (fun g hg => .inr (by omega))
    have hwl : IntKind.i64.wrap ((b.length : Int) - (at_ : Int)) = (b.length : Int) - at_ := wrap64_of (by omega) (by omega)
    have hwl4 : IntKind.i64.wrap ((b.length : Int) - (at_ : Int) - 4) = (b.length : Int) - at_ - 4 := wrap64_of (by omega) (by omega)
    rw [cutS_step, hrl] at hqe
    by_cases h4 : 4 ≤ b.length - at_
    · rw [if_neg (show ¬ b.length - at_ < 4 by omega)] at hqe
      have hsb := sval_bound 3 ((b.drop at_).take 4) (by rw [List.length_take]; omega) (fun x hx => hby x (List.mem_of_mem_drop (List.mem_of_mem_take hx)))
      rw [show sval ((b.drop at_).take 4) = hd (b.drop at_) from rfl] at hsb
      repeat (first | (refine aw_seq ?_) | (refine aw_reg0 (by simp only [SZ, Nat.reduceAdd]; exact rfl) ?_) | (refine aw_reg (by decide +kernel) (by simp only [SZ, Nat.reduceAdd]; exact rfl) ?_) | (refine aw_regS (by decide +kernel) (by simp only [SZ, Nat.reduceAdd]; exact rfl) ?_) | (refine arl_nil ?_) | (refine aw_skip ?_) | (refine aw_block ?_) | (refine aw_exit ?_) | (refine aw_ret ?_) | (refine arl_cons rfl rfl (by simp +decide only [aop, abuiltin, aeval, aintBin, bin_int, aload_bump, SS, reduceIte, reduceCtorEq, f7, f1, hln, d1]; exact rfl) (by first | rfl | with_reducible assumption) rfl ?_) | (refine arl_none rfl rfl (by simp +decide only [aop, abuiltin, aeval, aintBin, bin_int, aload_bump, SS, reduceIte, reduceCtorEq, f7, f1, hln, d1]; exact rfl) rfl rfl ?_) | (refine arl_off rfl rfl ?_) | (refine aw_condT (by simp +decide only [aop, abuiltin, aeval, aintBin, bin_int, aload_bump, SS, reduceIte, reduceCtorEq, f7, f1, hln, d1]; first | done | exact rfl) ?_) | (refine aw_condF (by simp +decide only [aop, abuiltin, aeval, aintBin, bin_int, aload_bump, SS, reduceIte, reduceCtorEq, f7, f1, hln, d1]; first | done | exact rfl) ?_))
      refine arl_call rfl rfl rfl rfl rfl rfl ((((number_ok (by repeat (first | assumption | (refine WF.bump ?_ _))) (hbs.up (by repeat (first | exact Keeps.refl _ _ | (refine Keeps.bumpR ?_ _)))) at_ 4 (by omega) hat (by omega) hby).mono (fun r s hq => by rw [if_pos h4, show sval ((b.drop at_).take 4) = hd (b.drop at_) from rfl] at hq; exact hq))).wf (by repeat (first | assumption | (refine WF.bump ?_ _) | (refine WF.put ?_ (by simp only [n_bump, n_put, n_touch, n_kill] at *; omega) (by simp only [n_bump, n_put, n_touch, n_kill] at *; omega)))) |>.mono ?_)
      rintro nr s1 ⟨hw1, hn1, hE1, rfl⟩
      refine ⟨by first | rfl | with_reducible assumption, ?_⟩
      replace hE1 : Ext sx s1 := Keeps.trans (by repeat (first | assumption | exact Keeps.refl _ _ | (refine Keeps.bumpR ?_ _) | (refine Keeps.put ?_ (by assumption) (by simp only [n_bump, n_put, n_touch, n_kill] at *; omega)))) hE1
      have hN1 := hE1.n
      generalize hd (b.drop at_) = z at *
      have hgC1 := hE1.get _ _ hgC' (fun h => h)
      have hO1 := hO.up hE1
      have hS1 := hSx.trans hE1
      by_cases h0 : z < 0
      · have d2 : decide (z < 0) = true := decide_eq_true h0
        rw [if_pos h0] at hqe
        repeat (first | (refine aw_seq ?_) | (refine aw_reg0 (by simp only [SZ, Nat.reduceAdd]; exact rfl) ?_) | (refine aw_reg (by decide +kernel) (by simp only [SZ, Nat.reduceAdd]; exact rfl) ?_) | (refine aw_regS (by decide +kernel) (by simp only [SZ, Nat.reduceAdd]; exact rfl) ?_) | (refine arl_nil ?_) | (refine aw_skip ?_) | (refine aw_block ?_) | (refine aw_exit ?_) | (refine aw_ret ?_) | (refine arl_cons rfl rfl (by simp +decide only [aop, abuiltin, aeval, aintBin, bin_int, aload_bump, SS, reduceIte, reduceCtorEq, d2, f6, hlx, f7, bldSe]; exact rfl) (by first | rfl | with_reducible assumption) rfl ?_) | (refine arl_none rfl rfl (by simp +decide only [aop, abuiltin, aeval, aintBin, bin_int, aload_bump, SS, reduceIte, reduceCtorEq, d2, f6, hlx, f7, bldSe]; exact rfl) rfl rfl ?_) | (refine arl_off rfl rfl ?_) | (refine aw_condT (by simp +decide only [aop, abuiltin, aeval, aintBin, bin_int, aload_bump, SS, reduceIte, reduceCtorEq, d2, f6, hlx, f7, bldSe]; first | done | exact rfl) ?_) | (refine aw_condF (by simp +decide only [aop, abuiltin, aeval, aintBin, bin_int, aload_bump, SS, reduceIte, reduceCtorEq, d2, f6, hlx, f7, bldSe]; first | done | exact rfl) ?_))
        refine arl_storeW (e := ST) (cs := [i64 fk.length, i64 at_, i64 (0), i64 5]) rfl rfl rfl f5 rfl hgC1 szST rfl rfl rfl rfl rfl ?_
        intro s9 hn9 hwf9 hK9 hg9 hD9
        have hlR : aload Try.prog s9 ST (.ptr c0 0) = some (stT fk.length at_ (0) 5) := load_agg Try.underlying34 rfl szST hg9 (by simp)
        repeat (first | (refine aw_seq ?_) | (refine aw_reg0 (by simp only [SZ, Nat.reduceAdd]; exact rfl) ?_) | (refine aw_reg (by decide +kernel) (by simp only [SZ, Nat.reduceAdd]; exact rfl) ?_) | (refine aw_regS (by decide +kernel) (by simp only [SZ, Nat.reduceAdd]; exact rfl) ?_) | (refine arl_nil ?_) | (refine aw_skip ?_) | (refine aw_block ?_) | (refine aw_exit ?_) | (refine aw_ret ?_) | (refine arl_cons rfl rfl (by simp +decide only [aop, abuiltin, aeval, aintBin, bin_int, aload_bump, SS, reduceIte, reduceCtorEq]; exact rfl) (by first | rfl | with_reducible assumption) rfl ?_) | (refine arl_none rfl rfl (by simp +decide only [aop, abuiltin, aeval, aintBin, bin_int, aload_bump, SS, reduceIte, reduceCtorEq]; exact rfl) rfl rfl ?_) | (refine arl_off rfl rfl ?_) | (refine aw_condT (by simp +decide only [aop, abuiltin, aeval, aintBin, bin_int, aload_bump, SS, reduceIte, reduceCtorEq]; first | done | exact rfl) ?_) | (refine aw_condF (by simp +decide only [aop, abuiltin, aeval, aintBin, bin_int, aload_bump, SS, reduceIte, reduceCtorEq]; first | done | exact rfl) ?_))
        refine ⟨.inr rfl, _, ares2 rfl (x := stT fk.length at_ (0) 5) (by show aload _ _ _ (fr 5) = _; rw [f5]; exact hlR), (Keeps.call (hS1.trans (by repeat (first | exact Keeps.refl _ _ | (refine Keeps.bumpR ?_ _)))) hK9 hw (fun g hg => .inr (by omega))).trans (by repeat (first | exact Keeps.refl _ _ | (refine Keeps.bumpR ?_ _))), xo, ?_, hxs, ?_⟩
        · rw [hqe, stOf_at fk _ hat]
          rfl
        · rw [hqe, List.append_nil]
          exact ((((hO1.up (show Ext s1 _ from (by repeat (first | exact Keeps.refl _ _ | (refine Keeps.bumpR ?_ _))))).keep hK9 (fun g hg => by show ¬ g = c0; omega) (fun _ g hg => by show ¬ g = c0; omega)).up (by repeat (first | exact Keeps.refl _ _ | (refine Keeps.bumpR ?_ _)))).rd.mono (fun g hg => hg.elim (fun hg => by omega) (fun ⟨_, hg⟩ => by omega)))
      · have d2 : decide (z < 0) = false := decide_eq_false h0
        rw [if_neg h0] at hqe
        repeat (first | (refine aw_seq ?_) | (refine aw_reg0 (by simp only [SZ, Nat.reduceAdd]; exact rfl) ?_) | (refine aw_reg (by decide +kernel) (by simp only [SZ, Nat.reduceAdd]; exact rfl) ?_) | (refine aw_regS (by decide +kernel) (by simp only [SZ, Nat.reduceAdd]; exact rfl) ?_) | (refine arl_nil ?_) | (refine aw_skip ?_) | (refine aw_block ?_) | (refine aw_exit ?_) | (refine aw_ret ?_) | (refine arl_cons rfl rfl (by simp +decide only [aop, abuiltin, aeval, aintBin, bin_int, aload_bump, SS, reduceIte, reduceCtorEq, d2, f0]; exact rfl) (by first | rfl | with_reducible assumption) rfl ?_) | (refine arl_none rfl rfl (by simp +decide only [aop, abuiltin, aeval, aintBin, bin_int, aload_bump, SS, reduceIte, reduceCtorEq, d2, f0]; exact rfl) rfl rfl ?_) | (refine arl_off rfl rfl ?_) | (refine aw_condT (by simp +decide only [aop, abuiltin, aeval, aintBin, bin_int, aload_bump, SS, reduceIte, reduceCtorEq, d2, f0]; first | done | exact rfl) ?_) | (refine aw_condF (by simp +decide only [aop, abuiltin, aeval, aintBin, bin_int, aload_bump, SS, reduceIte, reduceCtorEq, d2, f0]; first | done | exact rfl) ?_))
        have hK1 := hE1
        refine arl_call rfl rfl rfl rfl rfl rfl ((rbound_ok most).wf (by repeat (first | assumption | (refine WF.bump ?_ _) | (refine WF.put ?_ (by simp only [n_bump, n_put, n_touch, n_kill] at *; omega) (by simp only [n_bump, n_put, n_touch, n_kill] at *; omega)))) |>.mono ?_)
        rintro r s2 ⟨hw2, hn2, hE2, rfl⟩
        refine ⟨rfl, ?_⟩
        replace hE1 : Ext sx s2 := hE1.trans (Keeps.trans (show Ext s1 _ from (by repeat (first | exact Keeps.refl _ _ | (refine Keeps.bumpR ?_ _)))) hE2)
        clear hgC1 hO1 hS1
        have hgC1 := hE1.get _ _ hgC' (fun h => h)
        have hO1 := hO.up hE1
        have hS1 := hSx.trans hE1
        have hN2 := hE1.n
        by_cases h1 : bndF most < z
        · have d3 : decide (z > bndF most) = true := decide_eq_true h1
          rw [if_pos h1] at hqe
          repeat (first | (refine aw_seq ?_) | (refine aw_reg0 (by simp only [SZ, Nat.reduceAdd]; exact rfl) ?_) | (refine aw_reg (by decide +kernel) (by simp only [SZ, Nat.reduceAdd]; exact rfl) ?_) | (refine aw_regS (by decide +kernel) (by simp only [SZ, Nat.reduceAdd]; exact rfl) ?_) | (refine arl_nil ?_) | (refine aw_skip ?_) | (refine aw_block ?_) | (refine aw_exit ?_) | (refine aw_ret ?_) | (refine arl_cons rfl rfl (by simp +decide only [aop, abuiltin, aeval, aintBin, bin_int, aload_bump, SS, reduceIte, reduceCtorEq, d3, f6, hlx, f7, bldSe]; exact rfl) (by first | rfl | with_reducible assumption) rfl ?_) | (refine arl_none rfl rfl (by simp +decide only [aop, abuiltin, aeval, aintBin, bin_int, aload_bump, SS, reduceIte, reduceCtorEq, d3, f6, hlx, f7, bldSe]; exact rfl) rfl rfl ?_) | (refine arl_off rfl rfl ?_) | (refine aw_condT (by simp +decide only [aop, abuiltin, aeval, aintBin, bin_int, aload_bump, SS, reduceIte, reduceCtorEq, d3, f6, hlx, f7, bldSe]; first | done | exact rfl) ?_) | (refine aw_condF (by simp +decide only [aop, abuiltin, aeval, aintBin, bin_int, aload_bump, SS, reduceIte, reduceCtorEq, d3, f6, hlx, f7, bldSe]; first | done | exact rfl) ?_))
          refine arl_storeW (e := ST) (cs := [i64 fk.length, i64 at_, i64 (0), i64 4]) rfl rfl rfl f5 rfl hgC1 szST rfl rfl rfl rfl rfl ?_
          intro s9 hn9 hwf9 hK9 hg9 hD9
          have hlR : aload Try.prog s9 ST (.ptr c0 0) = some (stT fk.length at_ (0) 4) := load_agg Try.underlying34 rfl szST hg9 (by simp)
          repeat (first | (refine aw_seq ?_) | (refine aw_reg0 (by simp only [SZ, Nat.reduceAdd]; exact rfl) ?_) | (refine aw_reg (by decide +kernel) (by simp only [SZ, Nat.reduceAdd]; exact rfl) ?_) | (refine aw_regS (by decide +kernel) (by simp only [SZ, Nat.reduceAdd]; exact rfl) ?_) | (refine arl_nil ?_) | (refine aw_skip ?_) | (refine aw_block ?_) | (refine aw_exit ?_) | (refine aw_ret ?_) | (refine arl_cons rfl rfl (by simp +decide only [aop, abuiltin, aeval, aintBin, bin_int, aload_bump, SS, reduceIte, reduceCtorEq]; exact rfl) (by first | rfl | with_reducible assumption) rfl ?_) | (refine arl_none rfl rfl (by simp +decide only [aop, abuiltin, aeval, aintBin, bin_int, aload_bump, SS, reduceIte, reduceCtorEq]; exact rfl) rfl rfl ?_) | (refine arl_off rfl rfl ?_) | (refine aw_condT (by simp +decide only [aop, abuiltin, aeval, aintBin, bin_int, aload_bump, SS, reduceIte, reduceCtorEq]; first | done | exact rfl) ?_) | (refine aw_condF (by simp +decide only [aop, abuiltin, aeval, aintBin, bin_int, aload_bump, SS, reduceIte, reduceCtorEq]; first | done | exact rfl) ?_))
          refine ⟨.inr rfl, _, ares2 rfl (x := stT fk.length at_ (0) 4) (by show aload _ _ _ (fr 5) = _; rw [f5]; exact hlR), (Keeps.call (hS1.trans (by repeat (first | exact Keeps.refl _ _ | (refine Keeps.bumpR ?_ _)))) hK9 hw (fun g hg => .inr (by omega))).trans (by repeat (first | exact Keeps.refl _ _ | (refine Keeps.bumpR ?_ _))), xo, ?_, hxs, ?_⟩
          · rw [hqe, stOf_at fk _ hat]
            rfl
          · rw [hqe, List.append_nil]
            exact ((((hO1.up (show Ext s2 _ from (by repeat (first | exact Keeps.refl _ _ | (refine Keeps.bumpR ?_ _))))).keep hK9 (fun g hg => by show ¬ g = c0; omega) (fun _ g hg => by show ¬ g = c0; omega)).up (by repeat (first | exact Keeps.refl _ _ | (refine Keeps.bumpR ?_ _)))).rd.mono (fun g hg => hg.elim (fun hg => by omega) (fun ⟨_, hg⟩ => by omega)))
        · have d3 : decide (z > bndF most) = false := decide_eq_false h1
          rw [if_neg h1] at hqe
          by_cases h2 : ((b.length - at_ : Nat) : Int) - 4 < z
          · have d4 : decide (z > (b.length : Int) - at_ - 4) = true := decide_eq_true (by omega)
            rw [if_pos h2] at hqe
            repeat (first | (refine aw_seq ?_) | (refine aw_reg0 (by simp only [SZ, Nat.reduceAdd]; exact rfl) ?_) | (refine aw_reg (by decide +kernel) (by simp only [SZ, Nat.reduceAdd]; exact rfl) ?_) | (refine aw_regS (by decide +kernel) (by simp only [SZ, Nat.reduceAdd]; exact rfl) ?_) | (refine arl_nil ?_) | (refine aw_skip ?_) | (refine aw_block ?_) | (refine aw_exit ?_) | (refine aw_ret ?_) | (refine arl_cons rfl rfl (by simp +decide only [aop, abuiltin, aeval, aintBin, bin_int, aload_bump, SS, reduceIte, reduceCtorEq, d3, f1, hln, f7, hwl, hwl4, d4, f6, hlx, bldS3]; exact rfl) (by first | rfl | with_reducible assumption) rfl ?_) | (refine arl_none rfl rfl (by simp +decide only [aop, abuiltin, aeval, aintBin, bin_int, aload_bump, SS, reduceIte, reduceCtorEq, d3, f1, hln, f7, hwl, hwl4, d4, f6, hlx, bldS3]; exact rfl) rfl rfl ?_) | (refine arl_off rfl rfl ?_) | (refine aw_condT (by simp +decide only [aop, abuiltin, aeval, aintBin, bin_int, aload_bump, SS, reduceIte, reduceCtorEq, d3, f1, hln, f7, hwl, hwl4, d4, f6, hlx, bldS3]; first | done | exact rfl) ?_) | (refine aw_condF (by simp +decide only [aop, abuiltin, aeval, aintBin, bin_int, aload_bump, SS, reduceIte, reduceCtorEq, d3, f1, hln, f7, hwl, hwl4, d4, f6, hlx, bldS3]; first | done | exact rfl) ?_))
            refine arl_storeW (e := ST) (cs := [i64 fk.length, i64 at_, i64 ((b.length : Int) - at_), i64 0]) rfl rfl rfl f5 rfl hgC1 szST rfl rfl rfl rfl rfl ?_
            intro s9 hn9 hwf9 hK9 hg9 hD9
            have hlR : aload Try.prog s9 ST (.ptr c0 0) = some (stT fk.length at_ ((b.length : Int) - at_) 0) := load_agg Try.underlying34 rfl szST hg9 (by simp)
            repeat (first | (refine aw_seq ?_) | (refine aw_reg0 (by simp only [SZ, Nat.reduceAdd]; exact rfl) ?_) | (refine aw_reg (by decide +kernel) (by simp only [SZ, Nat.reduceAdd]; exact rfl) ?_) | (refine aw_regS (by decide +kernel) (by simp only [SZ, Nat.reduceAdd]; exact rfl) ?_) | (refine arl_nil ?_) | (refine aw_skip ?_) | (refine aw_block ?_) | (refine aw_exit ?_) | (refine aw_ret ?_) | (refine arl_cons rfl rfl (by simp +decide only [aop, abuiltin, aeval, aintBin, bin_int, aload_bump, SS, reduceIte, reduceCtorEq]; exact rfl) (by first | rfl | with_reducible assumption) rfl ?_) | (refine arl_none rfl rfl (by simp +decide only [aop, abuiltin, aeval, aintBin, bin_int, aload_bump, SS, reduceIte, reduceCtorEq]; exact rfl) rfl rfl ?_) | (refine arl_off rfl rfl ?_) | (refine aw_condT (by simp +decide only [aop, abuiltin, aeval, aintBin, bin_int, aload_bump, SS, reduceIte, reduceCtorEq]; first | done | exact rfl) ?_) | (refine aw_condF (by simp +decide only [aop, abuiltin, aeval, aintBin, bin_int, aload_bump, SS, reduceIte, reduceCtorEq]; first | done | exact rfl) ?_))
            refine ⟨.inr rfl, _, ares2 rfl (x := stT fk.length at_ ((b.length : Int) - at_) 0) (by show aload _ _ _ (fr 5) = _; rw [f5]; exact hlR), (Keeps.call (hS1.trans (by repeat (first | exact Keeps.refl _ _ | (refine Keeps.bumpR ?_ _)))) hK9 hw (fun g hg => .inr (by omega))).trans (by repeat (first | exact Keeps.refl _ _ | (refine Keeps.bumpR ?_ _))), xo, ?_, hxs, ?_⟩
            · rw [hqe, stOf_at fk _ hat]
              rfl
            · rw [hqe, List.append_nil]
              exact ((((hO1.up (show Ext s2 _ from (by repeat (first | exact Keeps.refl _ _ | (refine Keeps.bumpR ?_ _))))).keep hK9 (fun g hg => by show ¬ g = c0; omega) (fun _ g hg => by show ¬ g = c0; omega)).up (by repeat (first | exact Keeps.refl _ _ | (refine Keeps.bumpR ?_ _)))).rd.mono (fun g hg => hg.elim (fun hg => by omega) (fun ⟨_, hg⟩ => by omega)))
          · have d4 : decide (z > (b.length : Int) - at_ - 4) = false := decide_eq_false (by omega)
            rw [if_neg h2] at hqe
            have hw1 : IntKind.i64.wrap ((at_ : Int) + 4) = (at_ : Int) + 4 := wrap64_of (by omega) (by omega)
            have hw2' : IntKind.i64.wrap ((at_ : Int) + 4 + z) = (at_ : Int) + 4 + z := wrap64_of (by omega) (by omega)
            have hb2 := (hbs.up hE1)
            repeat (first | (refine aw_seq ?_) | (refine aw_reg0 (by simp only [SZ, Nat.reduceAdd]; exact rfl) ?_) | (refine aw_reg (by decide +kernel) (by simp only [SZ, Nat.reduceAdd]; exact rfl) ?_) | (refine aw_regS (by decide +kernel) (by simp only [SZ, Nat.reduceAdd]; exact rfl) ?_) | (refine arl_nil ?_) | (refine aw_skip ?_) | (refine aw_block ?_) | (refine aw_exit ?_) | (refine aw_ret ?_) | (refine arl_cons rfl rfl (by simp +decide only [aop, abuiltin, aeval, aintBin, bin_int, aload_bump, SS, reduceIte, reduceCtorEq, d3, f1, hln, f7, hwl, hwl4, d4, f6, hw1, hw2']; exact rfl) (by first | rfl | with_reducible assumption) rfl ?_) | (refine arl_none rfl rfl (by simp +decide only [aop, abuiltin, aeval, aintBin, bin_int, aload_bump, SS, reduceIte, reduceCtorEq, d3, f1, hln, f7, hwl, hwl4, d4, f6, hw1, hw2']; exact rfl) rfl rfl ?_) | (refine arl_off rfl rfl ?_) | (refine aw_condT (by simp +decide only [aop, abuiltin, aeval, aintBin, bin_int, aload_bump, SS, reduceIte, reduceCtorEq, d3, f1, hln, f7, hwl, hwl4, d4, f6, hw1, hw2']; first | done | exact rfl) ?_) | (refine aw_condF (by simp +decide only [aop, abuiltin, aeval, aintBin, bin_int, aload_bump, SS, reduceIte, reduceCtorEq, d3, f1, hln, f7, hwl, hwl4, d4, f6, hw1, hw2']; first | done | exact rfl) ?_))
            refine arl_call rfl rfl rfl rfl rfl rfl ((piece_ok (by repeat (first | assumption | (refine WF.bump ?_ _))) (hb2.up (by repeat (first | exact Keeps.refl _ _ | (refine Keeps.bumpR ?_ _)))) ((at_ : Int) + 4) ((at_ : Int) + 4 + z) (by omega) (by omega)).dead.wf (by repeat (first | assumption | (refine WF.bump ?_ _) | (refine WF.put ?_ (by simp only [n_bump, n_put, n_touch, n_kill] at *; omega) (by simp only [n_bump, n_put, n_touch, n_kill] at *; omega)))) |>.mono ?_)
            rintro y s3 ⟨hw3, hn3, hd3, hE3, hys, hY⟩
            refine ⟨hys, ?_⟩
            replace hE3 : Ext s2 s3 := Keeps.trans (show Ext s2 _ from (by repeat (first | exact Keeps.refl _ _ | (refine Keeps.bumpR ?_ _)))) hE3
            replace hY := hY.lt hw3
            have hfr3 : ∀ d, (s2.bump 7).n ≤ d → d < (s2.bump 7).n + 11 → s3.get d = none := fun d h1 h2 => hd3 d (by simp only [n_bump] at *; omega) (fresh hw2 (by simp only [n_bump] at *; omega))
            have hup3 : ∀ (o : AObj), Ext s3 (s3.put ((s2.bump 7).n + (0 + 1 + 1 + 1 + 1 + 1 + 1 + 1 + 1 + 1)) o) := fun o => Keeps.putF (Keeps.refl _ _) (hfr3 _ (by omega) (by omega))
            simp only [n_bump] at hn3
            have hpe : (b.drop ((at_ : Int) + 4).toNat).take (((at_ : Int) + 4 + z).toNat - ((at_ : Int) + 4).toNat) = ((b.drop at_).drop 4).take z.toNat := by
              rw [List.drop_drop]
              congr 1 <;> first | omega | (congr 1 <;> omega)
            rw [hpe] at hY
            have hlit := fun id => litF1 hY.rd id
            have hN3 := hE3.n
            repeat (first | (refine aw_seq ?_) | (refine aw_reg0 (by simp only [SZ, Nat.reduceAdd]; exact rfl) ?_) | (refine aw_reg (by decide +kernel) (by simp only [SZ, Nat.reduceAdd]; exact rfl) ?_) | (refine aw_regS (by decide +kernel) (by simp only [SZ, Nat.reduceAdd]; exact rfl) ?_) | (refine arl_nil ?_) | (refine aw_skip ?_) | (refine aw_block ?_) | (refine aw_exit ?_) | (refine aw_ret ?_) | (refine arl_cons rfl rfl (by simp +decide only [aop, abuiltin, aeval, aintBin, bin_int, aload_bump, SS, reduceIte, reduceCtorEq, hlit]; exact rfl) (by first | rfl | with_reducible assumption) rfl ?_) | (refine arl_none rfl rfl (by simp +decide only [aop, abuiltin, aeval, aintBin, bin_int, aload_bump, SS, reduceIte, reduceCtorEq, hlit]; exact rfl) rfl rfl ?_) | (refine arl_off rfl rfl ?_) | (refine aw_condT (by simp +decide only [aop, abuiltin, aeval, aintBin, bin_int, aload_bump, SS, reduceIte, reduceCtorEq, hlit]; first | done | exact rfl) ?_) | (refine aw_condF (by simp +decide only [aop, abuiltin, aeval, aintBin, bin_int, aload_bump, SS, reduceIte, reduceCtorEq, hlit]; first | done | exact rfl) ?_))
            refine arl_appX (k := rowK) (K0 := fun g => g = g0) (L0 := fun _ g => g0 < g) (Kx := fun _ => True) (Kn := fun g => s2.n + 19 ≤ g ∧ g < s3.n) (K := fun g => g = g0) (L := fun _ g => g0 < g) (xs := fk) (ns := [((b.drop at_).drop 4).take z.toNat]) (show TF Try.prog 22 BT rowK.s 24 from TR) rfl rfl rfl (((hO1.up hE3).up (hup3 _))) (RdL.one ⟨y, rfl, (hY.rd.mono (K' := fun g => s2.n + 19 ≤ g ∧ g < s3.n) (fun g hg => ⟨by have := hg.1; simp only [n_bump] at this; omega, hg.2⟩)).up (hup3 _)⟩ rfl _ trivial _) (fun g hg hg' => by omega) ⟨fun hg => by have := hg.1; simp only [n_bump] at this; omega, fun h => absurd h fn⟩ (fun _ h => h) (fun _ _ _ h => h) (fun _ g _ _ hg => by have := hg.1; omega) ?hfr (by simp; omega) (by simp; omega) ?_
            case hfr =>
              rw [get_put_ne _ (by omega)]
              exact hfr3 _ (by omega) (by omega)
            intro xn s4 hO4 hn4 hK4 hwf4
            have hxn := hO4.solid
            have hnn := hO4.ne
            have hw4 : WF s4 := hwf4 (WF.put hw3 (by simp only [n_bump]; omega) (by simp only [n_bump]; omega)) (by simp only [n_put, n_bump]; omega)
            replace hK4 : Keeps (fun g => g = g0) s3 s4 := Keeps.trans (Keeps.mono (G := fun _ => False) (hup3 _) (fun _ h => h.elim)) hK4
            repeat (first | (refine aw_seq ?_) | (refine aw_reg0 (by simp only [SZ, Nat.reduceAdd]; exact rfl) ?_) | (refine aw_reg (by decide +kernel) (by simp only [SZ, Nat.reduceAdd]; exact rfl) ?_) | (refine aw_regS (by decide +kernel) (by simp only [SZ, Nat.reduceAdd]; exact rfl) ?_) | (refine arl_nil ?_) | (refine aw_skip ?_) | (refine aw_block ?_) | (refine aw_exit ?_) | (refine aw_ret ?_) | (refine arl_cons rfl rfl (by simp +decide only [aop, abuiltin, aeval, aintBin, bin_int, aload_bump, SS, reduceIte, reduceCtorEq, f7, hw1, hw2']; exact rfl) (by first | rfl | with_reducible assumption) rfl ?_) | (refine arl_none rfl rfl (by simp +decide only [aop, abuiltin, aeval, aintBin, bin_int, aload_bump, SS, reduceIte, reduceCtorEq, f7, hw1, hw2']; exact rfl) rfl rfl ?_) | (refine arl_off rfl rfl ?_) | (refine aw_condT (by simp +decide only [aop, abuiltin, aeval, aintBin, bin_int, aload_bump, SS, reduceIte, reduceCtorEq, f7, hw1, hw2']; first | done | exact rfl) ?_) | (refine aw_condF (by simp +decide only [aop, abuiltin, aeval, aintBin, bin_int, aload_bump, SS, reduceIte, reduceCtorEq, f7, hw1, hw2']; first | done | exact rfl) ?_))
            refine ⟨b.length - (at_ + 4 + z.toNat), by omega, hE.trans (((hE1.trans hE3).mono (fun _ h => h.elim)).trans (hK4.trans (Keeps.mono (G := fun _ => False) (by repeat (first | exact Keeps.refl _ _ | (refine Keeps.bumpR ?_ _))) (fun _ h => h.elim)))), at_ + 4 + z.toNat, fk ++ [((b.drop at_).drop 4).take z.toNat], by omega, rfl, by simp; omega, f0, f1, f5, hnn, ?_, hO4.up (by repeat (first | exact Keeps.refl _ _ | (refine Keeps.bumpR ?_ _))), ?_⟩
            · show i64 _ = i64 _
              congr 2
              omega
            · rw [hqe, List.append_assoc]
              simp only [List.singleton_append, List.drop_drop]
              rw [show at_ + (4 + z.toNat) = at_ + 4 + z.toNat by omega]
    · rw [if_pos (show b.length - at_ < 4 by omega)] at hqe
      repeat (first | (refine aw_seq ?_) | (refine aw_reg0 (by simp only [SZ, Nat.reduceAdd]; exact rfl) ?_) | (refine aw_reg (by decide +kernel) (by simp only [SZ, Nat.reduceAdd]; exact rfl) ?_) | (refine aw_regS (by decide +kernel) (by simp only [SZ, Nat.reduceAdd]; exact rfl) ?_) | (refine arl_nil ?_) | (refine aw_skip ?_) | (refine aw_block ?_) | (refine aw_exit ?_) | (refine aw_ret ?_) | (refine arl_cons rfl rfl (by simp +decide only [aop, abuiltin, aeval, aintBin, bin_int, aload_bump, SS, reduceIte, reduceCtorEq, f7, f1, hln, d1]; exact rfl) (by first | rfl | with_reducible assumption) rfl ?_) | (refine arl_none rfl rfl (by simp +decide only [aop, abuiltin, aeval, aintBin, bin_int, aload_bump, SS, reduceIte, reduceCtorEq, f7, f1, hln, d1]; exact rfl) rfl rfl ?_) | (refine arl_off rfl rfl ?_) | (refine aw_condT (by simp +decide only [aop, abuiltin, aeval, aintBin, bin_int, aload_bump, SS, reduceIte, reduceCtorEq, f7, f1, hln, d1]; first | done | exact rfl) ?_) | (refine aw_condF (by simp +decide only [aop, abuiltin, aeval, aintBin, bin_int, aload_bump, SS, reduceIte, reduceCtorEq, f7, f1, hln, d1]; first | done | exact rfl) ?_))
      refine arl_call rfl rfl rfl rfl rfl rfl ((((number_ok (by repeat (first | assumption | (refine WF.bump ?_ _))) (hbs.up (by repeat (first | exact Keeps.refl _ _ | (refine Keeps.bumpR ?_ _)))) at_ 4 (by omega) hat (by omega) hby).mono (fun r s hq => by rw [if_neg h4] at hq; exact hq))).wf (by repeat (first | assumption | (refine WF.bump ?_ _) | (refine WF.put ?_ (by simp only [n_bump, n_put, n_touch, n_kill] at *; omega) (by simp only [n_bump, n_put, n_touch, n_kill] at *; omega)))) |>.mono ?_)
      rintro nr s1 ⟨hw1, hn1, hE1, rfl⟩
      refine ⟨by first | rfl | with_reducible assumption, ?_⟩
      replace hE1 : Ext sx s1 := Keeps.trans (by repeat (first | assumption | exact Keeps.refl _ _ | (refine Keeps.bumpR ?_ _) | (refine Keeps.put ?_ (by assumption) (by simp only [n_bump, n_put, n_touch, n_kill] at *; omega)))) hE1
      have hN1 := hE1.n
      have hgC1 := hE1.get _ _ hgC' (fun h => h)
      have hO1 := hO.up hE1
      have hS1 := hSx.trans hE1
      repeat (first | (refine aw_seq ?_) | (refine aw_reg0 (by simp only [SZ, Nat.reduceAdd]; exact rfl) ?_) | (refine aw_reg (by decide +kernel) (by simp only [SZ, Nat.reduceAdd]; exact rfl) ?_) | (refine aw_regS (by decide +kernel) (by simp only [SZ, Nat.reduceAdd]; exact rfl) ?_) | (refine arl_nil ?_) | (refine aw_skip ?_) | (refine aw_block ?_) | (refine aw_exit ?_) | (refine aw_ret ?_) | (refine arl_cons rfl rfl (by simp +decide only [aop, abuiltin, aeval, aintBin, bin_int, aload_bump, SS, reduceIte, reduceCtorEq, f6, hlx, f7, f1, hln, hwl, bldS3]; exact rfl) (by first | rfl | with_reducible assumption) rfl ?_) | (refine arl_none rfl rfl (by simp +decide only [aop, abuiltin, aeval, aintBin, bin_int, aload_bump, SS, reduceIte, reduceCtorEq, f6, hlx, f7, f1, hln, hwl, bldS3]; exact rfl) rfl rfl ?_) | (refine arl_off rfl rfl ?_) | (refine aw_condT (by simp +decide only [aop, abuiltin, aeval, aintBin, bin_int, aload_bump, SS, reduceIte, reduceCtorEq, f6, hlx, f7, f1, hln, hwl, bldS3]; first | done | exact rfl) ?_) | (refine aw_condF (by simp +decide only [aop, abuiltin, aeval, aintBin, bin_int, aload_bump, SS, reduceIte, reduceCtorEq, f6, hlx, f7, f1, hln, hwl, bldS3]; first | done | exact rfl) ?_))
      refine arl_storeW (e := ST) (cs := [i64 fk.length, i64 at_, i64 ((b.length : Int) - at_), i64 0]) rfl rfl rfl f5 rfl hgC1 szST rfl rfl rfl rfl rfl ?_
      intro s9 hn9 hwf9 hK9 hg9 hD9
      have hlR : aload Try.prog s9 ST (.ptr c0 0) = some (stT fk.length at_ ((b.length : Int) - at_) 0) := load_agg Try.underlying34 rfl szST hg9 (by simp)
      repeat (first | (refine aw_seq ?_) | (refine aw_reg0 (by simp only [SZ, Nat.reduceAdd]; exact rfl) ?_) | (refine aw_reg (by decide +kernel) (by simp only [SZ, Nat.reduceAdd]; exact rfl) ?_) | (refine aw_regS (by decide +kernel) (by simp only [SZ, Nat.reduceAdd]; exact rfl) ?_) | (refine arl_nil ?_) | (refine aw_skip ?_) | (refine aw_block ?_) | (refine aw_exit ?_) | (refine aw_ret ?_) | (refine arl_cons rfl rfl (by simp +decide only [aop, abuiltin, aeval, aintBin, bin_int, aload_bump, SS, reduceIte, reduceCtorEq]; exact rfl) (by first | rfl | with_reducible assumption) rfl ?_) | (refine arl_none rfl rfl (by simp +decide only [aop, abuiltin, aeval, aintBin, bin_int, aload_bump, SS, reduceIte, reduceCtorEq]; exact rfl) rfl rfl ?_) | (refine arl_off rfl rfl ?_) | (refine aw_condT (by simp +decide only [aop, abuiltin, aeval, aintBin, bin_int, aload_bump, SS, reduceIte, reduceCtorEq]; first | done | exact rfl) ?_) | (refine aw_condF (by simp +decide only [aop, abuiltin, aeval, aintBin, bin_int, aload_bump, SS, reduceIte, reduceCtorEq]; first | done | exact rfl) ?_))
      refine ⟨.inr rfl, _, ares2 rfl (x := stT fk.length at_ ((b.length : Int) - at_) 0) (by show aload _ _ _ (fr 5) = _; rw [f5]; exact hlR), (Keeps.call (hS1.trans (by repeat (first | exact Keeps.refl _ _ | (refine Keeps.bumpR ?_ _)))) hK9 hw (fun g hg => .inr (by omega))).trans (by repeat (first | exact Keeps.refl _ _ | (refine Keeps.bumpR ?_ _))), xo, ?_, hxs, ?_⟩
      · rw [hqe, stOf_at fk _ hat]
        rfl
      · rw [hqe, List.append_nil]
        exact ((((hO1.up (show Ext s1 _ from (by repeat (first | exact Keeps.refl _ _ | (refine Keeps.bumpR ?_ _))))).keep hK9 (fun g hg => by show ¬ g = c0; omega) (fun _ g hg => by show ¬ g = c0; omega)).up (by repeat (first | exact Keeps.refl _ _ | (refine Keeps.bumpR ?_ _)))).rd.mono (fun g hg => hg.elim (fun hg => by omega) (fun ⟨_, hg⟩ => by omega)))
  · refine ⟨Keeps.refl _ _, 0, [], by omega, rfl, by simp, rfl, rfl, ?_, ?_, rfl, ?_, ?_⟩
    · show AV.ptr (st.n + (0 + 1)) 0 = _
      congr 1
      omega
    · intro h; cases h
    · show OwX rowK _ _ _ BT (.sl ((st.bump 2).n + 0) 0 0 1) _
      rw [show (st.bump 2).n + 0 = g0 by simp only [n_bump]; omega]
      exact hO0
    · rw [List.drop_zero, hq]; rfl
end Go.Proofs.Ytoccmjhgmoandaa.Ra
