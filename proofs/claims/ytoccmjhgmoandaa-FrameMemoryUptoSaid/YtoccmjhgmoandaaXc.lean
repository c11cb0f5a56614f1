/- frame: length, step. -/
import Derived.Test.YtoccmjhgmoandaaXb
import Derived.Test.YtoccmjhgmoandaaSh
namespace Go.Proofs.Ytoccmjhgmoandaa.Ra
open Go Go.RowKit
set_option linter.unusedVariables false
set_option linter.unusedSimpArgs false
set_option maxRecDepth 10000
theorem Pob.keep {st s : St} {G : Nat → Prop} {p : Nat} {hv bv : AV} {M need pos fr at_ err : Int} (h : Pob st p hv bv M need pos fr at_ err) (hk : Keeps G st s) (hg : ¬ G p) : Pob s p hv bv M need pos fr at_ err := hk.get _ _ h hg
theorem Pob.up {st s : St} {p : Nat} {hv bv : AV} {M need pos fr at_ err : Int} (h : Pob st p hv bv M need pos fr at_ err) (hk : Ext st s) : Pob s p hv bv M need pos fr at_ err := h.keep hk (fun h => h)
/-- What 'length' judges. -/
def judge (M : Int) (hd : Int) : Int := if hd < 0 then 5 else if hd > M then 4 else 0
set_option maxHeartbeats 1000000 in
theorem length_ok {st : St} (hw : WF st) {KH : Nat → Prop} {p : Nat} {hv bv : AV} {M need pos fr at_ err : Int} {xs : List Int} (h : Pob st p hv bv M need pos fr at_ err) (hh : RdB st KH hv xs) (hl : xs.length = 4) (hby : ∀ x ∈ xs, 0 ≤ x ∧ x < 256) :
    ACalls Try.prog 31 [.ptr p 0] st (fun r s => Keeps (fun g => g = p) st s ∧ r = i64 (judge M (sval xs)) ∧ Pob s p hv bv M (if judge M (sval xs) = 0 then sval xs else need) pos fr at_ err) := by
  obtain ⟨l0, l1, l2, l3, l4, l5, l6, l7, l8⟩ := h.lds
  have hhs := hh.solid
  have hsb := sval_bound 3 xs hl hby
  refine acalls_of Try.func31 rfl (by kernel_rfl) rfl ?_
  repeat (first | (refine aw_seq ?_) | (refine aw_reg0 (by simp only [SZ, Nat.reduceAdd]; exact rfl) ?_) | (refine aw_reg (by decide +kernel) (by simp only [SZ, Nat.reduceAdd]; exact rfl) ?_) | (refine aw_regS (by decide +kernel) (by simp only [SZ, Nat.reduceAdd]; exact rfl) ?_) | (refine arl_nil ?_) | (refine aw_skip ?_) | (refine aw_block ?_) | (refine aw_exit ?_) | (refine aw_ret ?_) | (refine arl_cons rfl rfl (by simp +decide only [aop, abuiltin, aeval, aintBin, bin_int, aload_bump, SS, reduceIte, reduceCtorEq, fp1, l1]; exact rfl) (by first | rfl | with_reducible assumption) rfl ?_) | (refine arl_none rfl rfl (by simp +decide only [aop, abuiltin, aeval, aintBin, bin_int, aload_bump, SS, reduceIte, reduceCtorEq, fp1, l1]; exact rfl) rfl rfl ?_) | (refine arl_off rfl rfl ?_) | (refine aw_condT (by simp +decide only [aop, abuiltin, aeval, aintBin, bin_int, aload_bump, SS, reduceIte, reduceCtorEq, fp1, l1]; first | done | exact rfl) ?_) | (refine aw_condF (by simp +decide only [aop, abuiltin, aeval, aintBin, bin_int, aload_bump, SS, reduceIte, reduceCtorEq, fp1, l1]; first | done | exact rfl) ?_))
  refine arl_call rfl rfl rfl rfl rfl rfl ((newReader_ok (by repeat (first | assumption | (refine WF.bump ?_ _))) (hh.up (by repeat (first | exact Keeps.refl _ _ | (refine Keeps.bumpR ?_ _)))) (by omega)).wf (by repeat (first | assumption | (refine WF.bump ?_ _) | (refine WF.put ?_ (by simp only [n_bump, n_put, n_touch, n_kill] at *; omega) (by simp only [n_bump, n_put, n_touch, n_kill] at *; omega)))) |>.mono ?_)
  rintro r s1 ⟨hw1, hn1, hE1, hrs, hB⟩
  refine ⟨by first | rfl | with_reducible assumption, ?_⟩
  replace hE1 : Ext st s1 := Keeps.trans (by repeat (first | assumption | exact Keeps.refl _ _ | (refine Keeps.bumpR ?_ _) | (refine Keeps.put ?_ (by assumption) (by simp only [n_bump, n_put, n_touch, n_kill] at *; omega)))) hE1
  have hN1 := hE1.n
  refine arl_call rfl rfl rfl rfl rfl rfl ((rI32_ok (by repeat (first | assumption | (refine WF.bump ?_ _))) hB (Nat.zero_le _) (by omega) hby).wf (by repeat (first | assumption | (refine WF.bump ?_ _) | (refine WF.put ?_ (by simp only [n_bump, n_put, n_touch, n_kill] at *; omega) (by simp only [n_bump, n_put, n_touch, n_kill] at *; omega)))) |>.mono ?_)
  rintro q s2 ⟨hw2, hn2, hE2, rfl, hB2⟩
  rw [if_pos (show 4 ≤ xs.length - 0 by omega), List.drop_zero, List.take_of_length_le (by omega), sv32 xs hl hby]
  refine ⟨rfl, ?_⟩
  have hS2 : Ext st s2 := Keeps.call hE1 hE2 hw (fun g h => .inr (by simp only [n_bump] at h; omega))
  have h2 := h.up hS2
  obtain ⟨m0, m1, m2, m3, m4, m5, m6, m7, m8⟩ := h2.lds
  have hcv : ∀ (st : St) (id : Nat) (x : Int), aconvert Try.prog st id 21 3 (.pl (.int .i32 x)) = some (.pl (.int .i64 (IntKind.i64.wrap x)), st) := fun st id x => conv_int Try.underlying21 Try.underlying3 st id .i32 x
  have hwx : IntKind.i64.wrap (sval xs) = sval xs := wrap64_of (by omega) (by omega)
  unfold judge
  by_cases h0 : sval xs < 0
  · have d1 : decide (sval xs < 0) = true := decide_eq_true h0
    rw [if_pos h0, if_neg (by decide)]
    repeat (first | (refine aw_seq ?_) | (refine aw_reg0 (by simp only [SZ, Nat.reduceAdd]; exact rfl) ?_) | (refine aw_reg (by decide +kernel) (by simp only [SZ, Nat.reduceAdd]; exact rfl) ?_) | (refine aw_regS (by decide +kernel) (by simp only [SZ, Nat.reduceAdd]; exact rfl) ?_) | (refine arl_nil ?_) | (refine aw_skip ?_) | (refine aw_block ?_) | (refine aw_exit ?_) | (refine aw_ret ?_) | (refine arl_cons rfl rfl (by simp +decide only [aop, abuiltin, aeval, aintBin, bin_int, aload_bump, SS, reduceIte, reduceCtorEq, d1]; exact rfl) (by first | rfl | with_reducible assumption) rfl ?_) | (refine arl_none rfl rfl (by simp +decide only [aop, abuiltin, aeval, aintBin, bin_int, aload_bump, SS, reduceIte, reduceCtorEq, d1]; exact rfl) rfl rfl ?_) | (refine arl_off rfl rfl ?_) | (refine aw_condT (by simp +decide only [aop, abuiltin, aeval, aintBin, bin_int, aload_bump, SS, reduceIte, reduceCtorEq, d1]; first | done | exact rfl) ?_) | (refine aw_condF (by simp +decide only [aop, abuiltin, aeval, aintBin, bin_int, aload_bump, SS, reduceIte, reduceCtorEq, d1]; first | done | exact rfl) ?_))
    exact ⟨.inr rfl, _, rfl, Keeps.mono (G := fun _ => False) (hS2.trans (by repeat (first | exact Keeps.refl _ _ | (refine Keeps.bumpR ?_ _)))) (fun _ h => h.elim), rfl, h2.up (by repeat (first | exact Keeps.refl _ _ | (refine Keeps.bumpR ?_ _)))⟩
  · have d1 : decide (sval xs < 0) = false := decide_eq_false h0
    rw [if_neg h0]
    by_cases h1 : sval xs > M
    · have d2 : decide (sval xs > M) = true := decide_eq_true h1
      rw [if_pos h1, if_neg (by decide)]
      repeat (first | (refine aw_seq ?_) | (refine aw_reg0 (by simp only [SZ, Nat.reduceAdd]; exact rfl) ?_) | (refine aw_reg (by decide +kernel) (by simp only [SZ, Nat.reduceAdd]; exact rfl) ?_) | (refine aw_regS (by decide +kernel) (by simp only [SZ, Nat.reduceAdd]; exact rfl) ?_) | (refine arl_nil ?_) | (refine aw_skip ?_) | (refine aw_block ?_) | (refine aw_exit ?_) | (refine aw_ret ?_) | (refine arl_cons rfl rfl (by simp +decide only [aop, abuiltin, aeval, aintBin, bin_int, aload_bump, SS, reduceIte, reduceCtorEq, d1, hcv, hwx, fp0, m0, d2]; exact rfl) (by first | rfl | with_reducible assumption) rfl ?_) | (refine arl_none rfl rfl (by simp +decide only [aop, abuiltin, aeval, aintBin, bin_int, aload_bump, SS, reduceIte, reduceCtorEq, d1, hcv, hwx, fp0, m0, d2]; exact rfl) rfl rfl ?_) | (refine arl_off rfl rfl ?_) | (refine aw_condT (by simp +decide only [aop, abuiltin, aeval, aintBin, bin_int, aload_bump, SS, reduceIte, reduceCtorEq, d1, hcv, hwx, fp0, m0, d2]; first | done | exact rfl) ?_) | (refine aw_condF (by simp +decide only [aop, abuiltin, aeval, aintBin, bin_int, aload_bump, SS, reduceIte, reduceCtorEq, d1, hcv, hwx, fp0, m0, d2]; first | done | exact rfl) ?_))
      exact ⟨.inr rfl, _, rfl, Keeps.mono (G := fun _ => False) (hS2.trans (by repeat (first | exact Keeps.refl _ _ | (refine Keeps.bumpR ?_ _)))) (fun _ h => h.elim), rfl, h2.up (by repeat (first | exact Keeps.refl _ _ | (refine Keeps.bumpR ?_ _)))⟩
    · have d2 : decide (sval xs > M) = false := decide_eq_false h1
      rw [if_neg h1, if_pos rfl]
      repeat (first | (refine aw_seq ?_) | (refine aw_reg0 (by simp only [SZ, Nat.reduceAdd]; exact rfl) ?_) | (refine aw_reg (by decide +kernel) (by simp only [SZ, Nat.reduceAdd]; exact rfl) ?_) | (refine aw_regS (by decide +kernel) (by simp only [SZ, Nat.reduceAdd]; exact rfl) ?_) | (refine arl_nil ?_) | (refine aw_skip ?_) | (refine aw_block ?_) | (refine aw_exit ?_) | (refine aw_ret ?_) | (refine arl_cons rfl rfl (by simp +decide only [aop, abuiltin, aeval, aintBin, bin_int, aload_bump, SS, reduceIte, reduceCtorEq, d1, hcv, hwx, fp0, m0, d2, fp3]; exact rfl) (by first | rfl | with_reducible assumption) rfl ?_) | (refine arl_none rfl rfl (by simp +decide only [aop, abuiltin, aeval, aintBin, bin_int, aload_bump, SS, reduceIte, reduceCtorEq, d1, hcv, hwx, fp0, m0, d2, fp3]; exact rfl) rfl rfl ?_) | (refine arl_off rfl rfl ?_) | (refine aw_condT (by simp +decide only [aop, abuiltin, aeval, aintBin, bin_int, aload_bump, SS, reduceIte, reduceCtorEq, d1, hcv, hwx, fp0, m0, d2, fp3]; first | done | exact rfl) ?_) | (refine aw_condF (by simp +decide only [aop, abuiltin, aeval, aintBin, bin_int, aload_bump, SS, reduceIte, reduceCtorEq, d1, hcv, hwx, fp0, m0, d2, fp3]; first | done | exact rfl) ?_))
      refine arl_storeX (off := 3) (y := i64 (sval xs)) rfl rfl rfl rfl rfl h2 szI rfl rfl rfl (by simp) ?_
      intro s3 hn3 hwf3 hK3 hg3 hD3
      have hw3 : WF s3 := hwf3 (by repeat (first | assumption | (refine WF.bump ?_ _)))
      repeat (first | (refine aw_seq ?_) | (refine aw_reg0 (by simp only [SZ, Nat.reduceAdd]; exact rfl) ?_) | (refine aw_reg (by decide +kernel) (by simp only [SZ, Nat.reduceAdd]; exact rfl) ?_) | (refine aw_regS (by decide +kernel) (by simp only [SZ, Nat.reduceAdd]; exact rfl) ?_) | (refine arl_nil ?_) | (refine aw_skip ?_) | (refine aw_block ?_) | (refine aw_exit ?_) | (refine aw_ret ?_) | (refine arl_cons rfl rfl (by simp +decide only [aop, abuiltin, aeval, aintBin, bin_int, aload_bump, SS, reduceIte, reduceCtorEq]; exact rfl) (by first | rfl | with_reducible assumption) rfl ?_) | (refine arl_none rfl rfl (by simp +decide only [aop, abuiltin, aeval, aintBin, bin_int, aload_bump, SS, reduceIte, reduceCtorEq]; exact rfl) rfl rfl ?_) | (refine arl_off rfl rfl ?_) | (refine aw_condT (by simp +decide only [aop, abuiltin, aeval, aintBin, bin_int, aload_bump, SS, reduceIte, reduceCtorEq]; first | done | exact rfl) ?_) | (refine aw_condF (by simp +decide only [aop, abuiltin, aeval, aintBin, bin_int, aload_bump, SS, reduceIte, reduceCtorEq]; first | done | exact rfl) ?_))
      exact ⟨.inr rfl, _, rfl, (Keeps.mono (G := fun _ => False) (hS2.trans (by repeat (first | exact Keeps.refl _ _ | (refine Keeps.bumpR ?_ _)))) (fun _ h => h.elim)).trans (hK3.trans (Keeps.mono (G := fun _ => False) (by repeat (first | exact Keeps.refl _ _ | (refine Keeps.bumpR ?_ _))) (fun _ h => h.elim))), rfl, Pob.up hg3 (by repeat (first | exact Keeps.refl _ _ | (refine Keeps.bumpR ?_ _)))⟩
theorem amin_ii (a b : Int) : amin [i64 a, i64 b] = some (i64 (min a b)) := by
  simp only [amin]
  by_cases h : b < a
  · rw [if_pos h, Int.min_eq_right (by omega)]
  · rw [if_neg h, Int.min_eq_left (by omega)]
set_option maxHeartbeats 2000000 in
theorem step_head {st : St} (hw : WF st) {KH KB Kc : Nat → Prop} {p : Nat} {hv bv cv : AV} {M need pos fr at_ err : Int} {hd bd c : List Int} (h : Pob st p hv bv M need pos fr at_ err) (hh : OwB st KH hv hd) (hb : OwB st KB bv bd) (hc : RdB st Kc cv c) (hpH : ¬ KH p) (hcH : ∀ g, Kc g → ¬ KH g ∧ g ≠ p) (hbH : ∀ g, KB g → ¬ KH g ∧ g ≠ p)
    (hl : hd.length < 4) (hcl : c.length ≤ 1000000000000) (hpos : 0 ≤ pos ∧ pos ≤ 1000000000000) (hpn : p < st.n) :
    ACalls Try.prog 30 [.ptr p 0, cv] st (fun r s => Keeps (fun g => g = p ∨ KH g) st s ∧ r.solid = true ∧ RdB s Kc r (c.drop (min (4 - hd.length) c.length)) ∧ ∃ hv', OwB s (fun g => KH g ∨ (st.n ≤ g ∧ g < s.n)) hv' (hd ++ c.take (min (4 - hd.length) c.length)) ∧ Pob s p hv' bv M need (pos + (min (4 - hd.length) c.length : Nat)) fr at_ err) := by
  replace hc := hc.lt hw
  obtain ⟨l0, l1, l2, l3, l4, l5, l6, l7, l8⟩ := h.lds
  have hhs := hh.solid
  have hbs := hb.solid
  have hcs := hc.solid
  have hhl := hh.rd.len
  have hbl := hb.rd.len
  have hcl' := hc.len
  obtain ⟨n, hn⟩ : ∃ n, min (4 - hd.length) c.length = n := ⟨_, rfl⟩
  rw [hn]
  have d1 : decide ((hd.length : Int) < 4) = true := decide_eq_true (by omega)
  have hwl : IntKind.i64.wrap ((4 : Int) - (hd.length : Int)) = ((4 - hd.length : Nat) : Int) := by rw [wrap64_of (by omega) (by omega)]; omega
  have hmin : amin [i64 ((4 - hd.length : Nat) : Int), i64 (c.length : Int)] = some (i64 n) := by rw [amin_ii]; congr 3; omega
  have hwp : IntKind.i64.wrap (pos + (n : Int)) = pos + (n : Int) := wrap64_of (by omega) (by omega)
  obtain ⟨u, hcut, hus, hU⟩ := hc.cuts none (some (i64 n)) 0 n (.inr ⟨rfl, rfl⟩) (.inl rfl) (by omega) (by omega)
  rw [List.drop_zero, Nat.sub_zero] at hU
  obtain ⟨w, hcut2, hws, hW⟩ := hc.cuts (some (i64 n)) none n c.length (.inl rfl) (.inr ⟨rfl, rfl⟩) (by omega) (Nat.le_refl _)
  rw [List.take_of_length_le (by rw [List.length_drop]; omega)] at hW
  refine acalls_of Try.func30 rfl (by kernel_rfl) (by simp [hcs]; rfl) ?_
  repeat (first | (refine aw_seq ?_) | (refine aw_reg0 (by simp only [SZ, Nat.reduceAdd]; exact rfl) ?_) | (refine aw_reg (by decide +kernel) (by simp only [SZ, Nat.reduceAdd]; exact rfl) ?_) | (refine aw_regS (by decide +kernel) (by simp only [SZ, Nat.reduceAdd]; exact rfl) ?_) | (refine arl_nil ?_) | (refine aw_skip ?_) | (refine aw_block ?_) | (refine aw_exit ?_) | (refine aw_ret ?_) | (refine arl_cons rfl rfl (by simp +decide only [aop, abuiltin, aeval, aintBin, bin_int, aload_bump, SS, reduceIte, reduceCtorEq, fp1, fp2, fp3, l1, l2, l3, hhl, d1, hwl, hcl', hmin, hcut]; exact rfl) (by first | rfl | with_reducible assumption) rfl ?_) | (refine arl_none rfl rfl (by simp +decide only [aop, abuiltin, aeval, aintBin, bin_int, aload_bump, SS, reduceIte, reduceCtorEq, fp1, fp2, fp3, l1, l2, l3, hhl, d1, hwl, hcl', hmin, hcut]; exact rfl) rfl rfl ?_) | (refine arl_off rfl rfl ?_) | (refine aw_condT (by simp +decide only [aop, abuiltin, aeval, aintBin, bin_int, aload_bump, SS, reduceIte, reduceCtorEq, fp1, fp2, fp3, l1, l2, l3, hhl, d1, hwl, hcl', hmin, hcut]; first | done | exact rfl) ?_) | (refine aw_condF (by simp +decide only [aop, abuiltin, aeval, aintBin, bin_int, aload_bump, SS, reduceIte, reduceCtorEq, fp1, fp2, fp3, l1, l2, l3, hhl, d1, hwl, hcl', hmin, hcut]; first | done | exact rfl) ?_))
  refine arl_appW (K := fun g => KH g ∨ st.n ≤ g) (K' := fun g => Kc g ∧ g < st.n) (xs := hd) (ns := c.take n) rfl rfl rfl ((hh.mono (fun g h => .inl h)).up (by repeat (first | exact Keeps.refl _ _ | (refine Keeps.bumpR ?_ _)))) (hU.up (by repeat (first | exact Keeps.refl _ _ | (refine Keeps.bumpR ?_ _)))) (.inr (by simp only [n_bump, n_put, n_touch, n_kill] at *; omega)) (by simp; omega) ?_
  intro y s1 hO hn1 hK1 hwf1
  have hys := hO.solid
  have hw1 : WF s1 := hwf1 (by repeat (first | assumption | (refine WF.bump ?_ _))) (by simp only [n_bump, n_put, n_touch, n_kill] at *; omega)
  have hK : Keeps KH st s1 := hK1 KH st hw (Keeps.mono (G := fun _ => False) (by repeat (first | exact Keeps.refl _ _ | (refine Keeps.bumpR ?_ _))) (fun _ h => h.elim)) (by simp only [n_bump, n_put, n_touch, n_kill] at *; omega) (fun g hg => hg)
  have hN1 := hK.n
  have h1 : Pob s1 p hv bv M need pos fr at_ err := h.keep hK hpH
  repeat (first | (refine aw_seq ?_) | (refine aw_reg0 (by simp only [SZ, Nat.reduceAdd]; exact rfl) ?_) | (refine aw_reg (by decide +kernel) (by simp only [SZ, Nat.reduceAdd]; exact rfl) ?_) | (refine aw_regS (by decide +kernel) (by simp only [SZ, Nat.reduceAdd]; exact rfl) ?_) | (refine arl_nil ?_) | (refine aw_skip ?_) | (refine aw_block ?_) | (refine aw_exit ?_) | (refine aw_ret ?_) | (refine arl_cons rfl rfl (by simp +decide only [aop, abuiltin, aeval, aintBin, bin_int, aload_bump, SS, reduceIte, reduceCtorEq]; exact rfl) (by first | rfl | with_reducible assumption) rfl ?_) | (refine arl_none rfl rfl (by simp +decide only [aop, abuiltin, aeval, aintBin, bin_int, aload_bump, SS, reduceIte, reduceCtorEq]; exact rfl) rfl rfl ?_) | (refine arl_off rfl rfl ?_) | (refine aw_condT (by simp +decide only [aop, abuiltin, aeval, aintBin, bin_int, aload_bump, SS, reduceIte, reduceCtorEq]; first | done | exact rfl) ?_) | (refine aw_condF (by simp +decide only [aop, abuiltin, aeval, aintBin, bin_int, aload_bump, SS, reduceIte, reduceCtorEq]; first | done | exact rfl) ?_))
  refine arl_storeX (off := 1) (y := y) rfl rfl rfl rfl rfl h1 szB hO.rd.cell.1 hO.rd.cell.2 hys (by simp) ?_
  intro s2 hn2 hwf2 hK2 hg2 hD2
  have hw2 : WF s2 := hwf2 hw1
  have h2 : Pob s2 p y bv M need pos fr at_ err := hg2
  obtain ⟨m0, m1, m2, m3, m4, m5, m6, m7, m8⟩ := h2.lds
  have hO2 := (hO.lt hw1).keep hK2 (fun g hg hg' => by rcases hg.1 with h' | h'; exact hpH (by rw [← hg']; exact h'); omega)
  repeat (first | (refine aw_seq ?_) | (refine aw_reg0 (by simp only [SZ, Nat.reduceAdd]; exact rfl) ?_) | (refine aw_reg (by decide +kernel) (by simp only [SZ, Nat.reduceAdd]; exact rfl) ?_) | (refine aw_regS (by decide +kernel) (by simp only [SZ, Nat.reduceAdd]; exact rfl) ?_) | (refine arl_nil ?_) | (refine aw_skip ?_) | (refine aw_block ?_) | (refine aw_exit ?_) | (refine aw_ret ?_) | (refine arl_cons rfl rfl (by simp +decide only [aop, abuiltin, aeval, aintBin, bin_int, aload_bump, SS, reduceIte, reduceCtorEq, fp4, m4, hwp]; exact rfl) (by first | rfl | with_reducible assumption) rfl ?_) | (refine arl_none rfl rfl (by simp +decide only [aop, abuiltin, aeval, aintBin, bin_int, aload_bump, SS, reduceIte, reduceCtorEq, fp4, m4, hwp]; exact rfl) rfl rfl ?_) | (refine arl_off rfl rfl ?_) | (refine aw_condT (by simp +decide only [aop, abuiltin, aeval, aintBin, bin_int, aload_bump, SS, reduceIte, reduceCtorEq, fp4, m4, hwp]; first | done | exact rfl) ?_) | (refine aw_condF (by simp +decide only [aop, abuiltin, aeval, aintBin, bin_int, aload_bump, SS, reduceIte, reduceCtorEq, fp4, m4, hwp]; first | done | exact rfl) ?_))
  refine arl_storeX (off := 4) (y := i64 (pos + (n : Int))) rfl rfl rfl rfl rfl h2 szI rfl rfl rfl (by simp) ?_
  intro s3 hn3 hwf3 hK3 hg3 hD3
  have hw3 : WF s3 := hwf3 (by repeat (first | assumption | (refine WF.bump ?_ _)))
  have hO3 := (hO2.up (by repeat (first | exact Keeps.refl _ _ | (refine Keeps.bumpR ?_ _)))).keep hK3 (fun g hg hg' => by rcases hg.1 with h' | h'; exact hpH (by rw [← hg']; exact h'); omega)
  have hA : Keeps (fun g => g = p ∨ KH g) st s3 := (hK.mono (fun g h => .inr h)).trans ((hK2.mono (fun g h => .inl h)).trans ((Keeps.mono (G := fun _ => False) (show Ext s2 _ from (by repeat (first | exact Keeps.refl _ _ | (refine Keeps.bumpR ?_ _)))) (fun _ h => h.elim)).trans (hK3.mono (fun g h => .inl h))))
  have hN3 := hA.n
  have hn13 : s1.n ≤ s3.n := by rw [hn3]; simp only [n_bump]; omega
  have hW3 := (hW.mono (K' := Kc) (fun g h => h.1)).keep hA (fun g h h' => by rcases h' with h' | h'; exact (hcH g h).2 h'; exact (hcH g h).1 h')
  repeat (first | (refine aw_seq ?_) | (refine aw_reg0 (by simp only [SZ, Nat.reduceAdd]; exact rfl) ?_) | (refine aw_reg (by decide +kernel) (by simp only [SZ, Nat.reduceAdd]; exact rfl) ?_) | (refine aw_regS (by decide +kernel) (by simp only [SZ, Nat.reduceAdd]; exact rfl) ?_) | (refine arl_nil ?_) | (refine aw_skip ?_) | (refine aw_block ?_) | (refine aw_exit ?_) | (refine aw_ret ?_) | (refine arl_cons rfl rfl (by simp +decide only [aop, abuiltin, aeval, aintBin, bin_int, aload_bump, SS, reduceIte, reduceCtorEq, hcut2]; exact rfl) (by first | rfl | with_reducible assumption) rfl ?_) | (refine arl_none rfl rfl (by simp +decide only [aop, abuiltin, aeval, aintBin, bin_int, aload_bump, SS, reduceIte, reduceCtorEq, hcut2]; exact rfl) rfl rfl ?_) | (refine arl_off rfl rfl ?_) | (refine aw_condT (by simp +decide only [aop, abuiltin, aeval, aintBin, bin_int, aload_bump, SS, reduceIte, reduceCtorEq, hcut2]; first | done | exact rfl) ?_) | (refine aw_condF (by simp +decide only [aop, abuiltin, aeval, aintBin, bin_int, aload_bump, SS, reduceIte, reduceCtorEq, hcut2]; first | done | exact rfl) ?_))
  exact ⟨.inr rfl, _, rfl, hA.trans (Keeps.mono (G := fun _ => False) (by repeat (first | exact Keeps.refl _ _ | (refine Keeps.bumpR ?_ _))) (fun _ h => h.elim)), hws, hW3.up (by repeat (first | exact Keeps.refl _ _ | (refine Keeps.bumpR ?_ _))), y, (hO3.mono (fun g hg => by rcases hg.1 with h' | h'; exact .inl h'; exact .inr ⟨h', by have := hg.2; simp only [n_bump]; omega⟩)).up (by repeat (first | exact Keeps.refl _ _ | (refine Keeps.bumpR ?_ _))), Pob.up hg3 (by repeat (first | exact Keeps.refl _ _ | (refine Keeps.bumpR ?_ _)))⟩
set_option maxHeartbeats 2000000 in
theorem step_body {st : St} (hw : WF st) {KH KB Kc : Nat → Prop} {p : Nat} {hv bv cv : AV} {M need pos fr at_ err : Int} {hd bd c : List Int} (h : Pob st p hv bv M need pos fr at_ err) (hh : OwB st KH hv hd) (hb : OwB st KB bv bd) (hc : RdB st Kc cv c) (hpH : ¬ KB p) (hcH : ∀ g, Kc g → ¬ KB g ∧ g ≠ p) (hbH : ∀ g, KH g → ¬ KB g ∧ g ≠ p)
    (hl : ¬ hd.length < 4) (hnd : (bd.length : Int) ≤ need ∧ need ≤ 1000000000) (hcl : c.length ≤ 1000000000000) (hpos : 0 ≤ pos ∧ pos ≤ 1000000000000) (hpn : p < st.n) :
    ACalls Try.prog 30 [.ptr p 0, cv] st (fun r s => Keeps (fun g => g = p ∨ KB g) st s ∧ r.solid = true ∧ RdB s Kc r (c.drop (min (need.toNat - bd.length) c.length)) ∧ ∃ bv', OwB s (fun g => KB g ∨ (st.n ≤ g ∧ g < s.n)) bv' (bd ++ c.take (min (need.toNat - bd.length) c.length)) ∧ Pob s p hv bv' M need (pos + (min (need.toNat - bd.length) c.length : Nat)) fr at_ err) := by
  replace hc := hc.lt hw
  obtain ⟨l0, l1, l2, l3, l4, l5, l6, l7, l8⟩ := h.lds
  have hhs := hh.solid
  have hbs := hb.solid
  have hcs := hc.solid
  have hhl := hh.rd.len
  have hbl := hb.rd.len
  have hcl' := hc.len
  obtain ⟨n, hn⟩ : ∃ n, min (need.toNat - bd.length) c.length = n := ⟨_, rfl⟩
  rw [hn]
  have d1 : decide ((hd.length : Int) < 4) = false := decide_eq_false (by omega)
  have hwl : IntKind.i64.wrap (need - (bd.length : Int)) = ((need.toNat - bd.length : Nat) : Int) := by rw [wrap64_of (by omega) (by omega)]; omega
  have hmin : amin [i64 ((need.toNat - bd.length : Nat) : Int), i64 (c.length : Int)] = some (i64 n) := by rw [amin_ii]; congr 3; omega
  have hwp : IntKind.i64.wrap (pos + (n : Int)) = pos + (n : Int) := wrap64_of (by omega) (by omega)
  obtain ⟨u, hcut, hus, hU⟩ := hc.cuts none (some (i64 n)) 0 n (.inr ⟨rfl, rfl⟩) (.inl rfl) (by omega) (by omega)
  rw [List.drop_zero, Nat.sub_zero] at hU
  obtain ⟨w, hcut2, hws, hW⟩ := hc.cuts (some (i64 n)) none n c.length (.inl rfl) (.inr ⟨rfl, rfl⟩) (by omega) (Nat.le_refl _)
  rw [List.take_of_length_le (by rw [List.length_drop]; omega)] at hW
  refine acalls_of Try.func30 rfl (by kernel_rfl) (by simp [hcs]; rfl) ?_
  repeat (first | (refine aw_seq ?_) | (refine aw_reg0 (by simp only [SZ, Nat.reduceAdd]; exact rfl) ?_) | (refine aw_reg (by decide +kernel) (by simp only [SZ, Nat.reduceAdd]; exact rfl) ?_) | (refine aw_regS (by decide +kernel) (by simp only [SZ, Nat.reduceAdd]; exact rfl) ?_) | (refine arl_nil ?_) | (refine aw_skip ?_) | (refine aw_block ?_) | (refine aw_exit ?_) | (refine aw_ret ?_) | (refine arl_cons rfl rfl (by simp +decide only [aop, abuiltin, aeval, aintBin, bin_int, aload_bump, SS, reduceIte, reduceCtorEq, fp1, fp2, fp3, l1, l2, l3, hhl, hbl, d1, hwl, hcl', hmin, hcut]; exact rfl) (by first | rfl | with_reducible assumption) rfl ?_) | (refine arl_none rfl rfl (by simp +decide only [aop, abuiltin, aeval, aintBin, bin_int, aload_bump, SS, reduceIte, reduceCtorEq, fp1, fp2, fp3, l1, l2, l3, hhl, hbl, d1, hwl, hcl', hmin, hcut]; exact rfl) rfl rfl ?_) | (refine arl_off rfl rfl ?_) | (refine aw_condT (by simp +decide only [aop, abuiltin, aeval, aintBin, bin_int, aload_bump, SS, reduceIte, reduceCtorEq, fp1, fp2, fp3, l1, l2, l3, hhl, hbl, d1, hwl, hcl', hmin, hcut]; first | done | exact rfl) ?_) | (refine aw_condF (by simp +decide only [aop, abuiltin, aeval, aintBin, bin_int, aload_bump, SS, reduceIte, reduceCtorEq, fp1, fp2, fp3, l1, l2, l3, hhl, hbl, d1, hwl, hcl', hmin, hcut]; first | done | exact rfl) ?_))
  refine arl_appW (K := fun g => KB g ∨ st.n ≤ g) (K' := fun g => Kc g ∧ g < st.n) (xs := bd) (ns := c.take n) rfl rfl rfl ((hb.mono (fun g h => .inl h)).up (by repeat (first | exact Keeps.refl _ _ | (refine Keeps.bumpR ?_ _)))) (hU.up (by repeat (first | exact Keeps.refl _ _ | (refine Keeps.bumpR ?_ _)))) (.inr (by simp only [n_bump, n_put, n_touch, n_kill] at *; omega)) (by simp; omega) ?_
  intro y s1 hO hn1 hK1 hwf1
  have hys := hO.solid
  have hw1 : WF s1 := hwf1 (by repeat (first | assumption | (refine WF.bump ?_ _))) (by simp only [n_bump, n_put, n_touch, n_kill] at *; omega)
  have hK : Keeps KB st s1 := hK1 KB st hw (Keeps.mono (G := fun _ => False) (by repeat (first | exact Keeps.refl _ _ | (refine Keeps.bumpR ?_ _))) (fun _ h => h.elim)) (by simp only [n_bump, n_put, n_touch, n_kill] at *; omega) (fun g hg => hg)
  have hN1 := hK.n
  have h1 : Pob s1 p hv bv M need pos fr at_ err := h.keep hK hpH
  repeat (first | (refine aw_seq ?_) | (refine aw_reg0 (by simp only [SZ, Nat.reduceAdd]; exact rfl) ?_) | (refine aw_reg (by decide +kernel) (by simp only [SZ, Nat.reduceAdd]; exact rfl) ?_) | (refine aw_regS (by decide +kernel) (by simp only [SZ, Nat.reduceAdd]; exact rfl) ?_) | (refine arl_nil ?_) | (refine aw_skip ?_) | (refine aw_block ?_) | (refine aw_exit ?_) | (refine aw_ret ?_) | (refine arl_cons rfl rfl (by simp +decide only [aop, abuiltin, aeval, aintBin, bin_int, aload_bump, SS, reduceIte, reduceCtorEq]; exact rfl) (by first | rfl | with_reducible assumption) rfl ?_) | (refine arl_none rfl rfl (by simp +decide only [aop, abuiltin, aeval, aintBin, bin_int, aload_bump, SS, reduceIte, reduceCtorEq]; exact rfl) rfl rfl ?_) | (refine arl_off rfl rfl ?_) | (refine aw_condT (by simp +decide only [aop, abuiltin, aeval, aintBin, bin_int, aload_bump, SS, reduceIte, reduceCtorEq]; first | done | exact rfl) ?_) | (refine aw_condF (by simp +decide only [aop, abuiltin, aeval, aintBin, bin_int, aload_bump, SS, reduceIte, reduceCtorEq]; first | done | exact rfl) ?_))
  refine arl_storeX (off := 2) (y := y) rfl rfl rfl rfl rfl h1 szB hO.rd.cell.1 hO.rd.cell.2 hys (by simp) ?_
  intro s2 hn2 hwf2 hK2 hg2 hD2
  have hw2 : WF s2 := hwf2 hw1
  have h2 : Pob s2 p hv y M need pos fr at_ err := hg2
  obtain ⟨m0, m1, m2, m3, m4, m5, m6, m7, m8⟩ := h2.lds
  have hO2 := (hO.lt hw1).keep hK2 (fun g hg hg' => by rcases hg.1 with h' | h'; exact hpH (by rw [← hg']; exact h'); omega)
  repeat (first | (refine aw_seq ?_) | (refine aw_reg0 (by simp only [SZ, Nat.reduceAdd]; exact rfl) ?_) | (refine aw_reg (by decide +kernel) (by simp only [SZ, Nat.reduceAdd]; exact rfl) ?_) | (refine aw_regS (by decide +kernel) (by simp only [SZ, Nat.reduceAdd]; exact rfl) ?_) | (refine arl_nil ?_) | (refine aw_skip ?_) | (refine aw_block ?_) | (refine aw_exit ?_) | (refine aw_ret ?_) | (refine arl_cons rfl rfl (by simp +decide only [aop, abuiltin, aeval, aintBin, bin_int, aload_bump, SS, reduceIte, reduceCtorEq, fp4, m4, hwp]; exact rfl) (by first | rfl | with_reducible assumption) rfl ?_) | (refine arl_none rfl rfl (by simp +decide only [aop, abuiltin, aeval, aintBin, bin_int, aload_bump, SS, reduceIte, reduceCtorEq, fp4, m4, hwp]; exact rfl) rfl rfl ?_) | (refine arl_off rfl rfl ?_) | (refine aw_condT (by simp +decide only [aop, abuiltin, aeval, aintBin, bin_int, aload_bump, SS, reduceIte, reduceCtorEq, fp4, m4, hwp]; first | done | exact rfl) ?_) | (refine aw_condF (by simp +decide only [aop, abuiltin, aeval, aintBin, bin_int, aload_bump, SS, reduceIte, reduceCtorEq, fp4, m4, hwp]; first | done | exact rfl) ?_))
  refine arl_storeX (off := 4) (y := i64 (pos + (n : Int))) rfl rfl rfl rfl rfl h2 szI rfl rfl rfl (by simp) ?_
  intro s3 hn3 hwf3 hK3 hg3 hD3
  have hw3 : WF s3 := hwf3 (by repeat (first | assumption | (refine WF.bump ?_ _)))
  have hO3 := (hO2.up (by repeat (first | exact Keeps.refl _ _ | (refine Keeps.bumpR ?_ _)))).keep hK3 (fun g hg hg' => by rcases hg.1 with h' | h'; exact hpH (by rw [← hg']; exact h'); omega)
  have hA : Keeps (fun g => g = p ∨ KB g) st s3 := (hK.mono (fun g h => .inr h)).trans ((hK2.mono (fun g h => .inl h)).trans ((Keeps.mono (G := fun _ => False) (show Ext s2 _ from (by repeat (first | exact Keeps.refl _ _ | (refine Keeps.bumpR ?_ _)))) (fun _ h => h.elim)).trans (hK3.mono (fun g h => .inl h))))
  have hN3 := hA.n
  have hn13 : s1.n ≤ s3.n := by rw [hn3]; simp only [n_bump]; omega
  have hW3 := (hW.mono (K' := Kc) (fun g h => h.1)).keep hA (fun g h h' => by rcases h' with h' | h'; exact (hcH g h).2 h'; exact (hcH g h).1 h')
  repeat (first | (refine aw_seq ?_) | (refine aw_reg0 (by simp only [SZ, Nat.reduceAdd]; exact rfl) ?_) | (refine aw_reg (by decide +kernel) (by simp only [SZ, Nat.reduceAdd]; exact rfl) ?_) | (refine aw_regS (by decide +kernel) (by simp only [SZ, Nat.reduceAdd]; exact rfl) ?_) | (refine arl_nil ?_) | (refine aw_skip ?_) | (refine aw_block ?_) | (refine aw_exit ?_) | (refine aw_ret ?_) | (refine arl_cons rfl rfl (by simp +decide only [aop, abuiltin, aeval, aintBin, bin_int, aload_bump, SS, reduceIte, reduceCtorEq, hcut2]; exact rfl) (by first | rfl | with_reducible assumption) rfl ?_) | (refine arl_none rfl rfl (by simp +decide only [aop, abuiltin, aeval, aintBin, bin_int, aload_bump, SS, reduceIte, reduceCtorEq, hcut2]; exact rfl) rfl rfl ?_) | (refine arl_off rfl rfl ?_) | (refine aw_condT (by simp +decide only [aop, abuiltin, aeval, aintBin, bin_int, aload_bump, SS, reduceIte, reduceCtorEq, hcut2]; first | done | exact rfl) ?_) | (refine aw_condF (by simp +decide only [aop, abuiltin, aeval, aintBin, bin_int, aload_bump, SS, reduceIte, reduceCtorEq, hcut2]; first | done | exact rfl) ?_))
  exact ⟨.inr rfl, _, rfl, hA.trans (Keeps.mono (G := fun _ => False) (by repeat (first | exact Keeps.refl _ _ | (refine Keeps.bumpR ?_ _))) (fun _ h => h.elim)), hws, hW3.up (by repeat (first | exact Keeps.refl _ _ | (refine Keeps.bumpR ?_ _))), y, (hO3.mono (fun g hg => by rcases hg.1 with h' | h'; exact .inl h'; exact .inr ⟨h', by have := hg.2; simp only [n_bump]; omega⟩)).up (by repeat (first | exact Keeps.refl _ _ | (refine Keeps.bumpR ?_ _))), Pob.up hg3 (by repeat (first | exact Keeps.refl _ _ | (refine Keeps.bumpR ?_ _)))⟩
end Go.Proofs.Ytoccmjhgmoandaa.Ra
