/- leatlaw17.FrameBack. -/
import Derived.Test.YtoccmjhgmoandaaYf
namespace Go.Proofs.Ytoccmjhgmoandaa.Ra
open Go Go.RowKit
set_option linter.unusedVariables false
set_option linter.unusedSimpArgs false
set_option maxRecDepth 10000
/-- A message's frame; messages one behind the other. -/
def frm (m : List Int) : List Int := bes m.length 4 ++ m
def strm (ms : List (List Int)) : List Int := (ms.map frm).flatten
def selF (M : Int) (ms : List (List Int)) : List (List Int) := ms.filter fun m => decide ((m.length : Int) ≤ M)
theorem bes_nat (n k : Nat) (h : n < 18446744073709551616) : bes (IntKind.u64.wrap (n : Int)) k = bes n k := by rw [wrapU64]; congr 1; omega
theorem hd_frm (m r : List Int) (h : m.length ≤ 131072) : hd (frm m ++ r) = m.length := by
  unfold hd frm
  rw [List.append_assoc, List.take_append_of_le_length (by rw [bes_len]; omega), List.take_of_length_le (by rw [bes_len]; omega), ← bes_nat _ _ (by omega)]
  exact sval_bes 3 _ (by decide) (by constructor <;> omega)
theorem cutS_strm (M : Int) (hM : M ≤ 131072) : ∀ ms : List (List Int), (∀ m ∈ ms, (m.length : Int) ≤ M) → cutS M (strm ms) = (ms, [], 0) := by
  intro ms
  induction ms with
  | nil => intro _; exact cutS_nil M
  | cons m ms ih =>
    intro h
    have hm := h m (List.mem_cons_self ..)
    have e : strm (m :: ms) = frm m ++ strm ms := by simp [strm]
    have hl : (frm m).length = 4 + m.length := by simp [frm, bes_len]
    have hh := hd_frm m (strm ms) (by omega)
    rw [e, cutS_step, hh, if_neg (by rw [List.length_append]; omega), if_neg (by omega), if_neg (by omega), if_neg (by rw [List.length_append]; omega)]
    have e1 : (frm m ++ strm ms).drop (4 + (m.length : Int).toNat) = strm ms := by
      rw [Int.toNat_natCast, ← hl, List.drop_left]
    have e2 : ((frm m ++ strm ms).drop 4).take (m.length : Int).toNat = m := by
      rw [Int.toNat_natCast]
      unfold frm
      rw [List.append_assoc, List.drop_append_of_le_length (by rw [bes_len]; omega), List.drop_of_length_le (by rw [bes_len]; omega), List.nil_append, List.take_left]
    rw [e1, e2, ih (fun x hx => h x (List.mem_cons_of_mem _ hx))]
theorem selF_succ (M : Int) (ps : List (List Int)) (k : Nat) (h : k < ps.length) : selF M (ps.take (k + 1)) = selF M (ps.take k) ++ (if (ps[k].length : Int) ≤ M then [ps[k]] else []) := by
  unfold selF
  rw [List.take_succ_eq_append_getElem h, List.filter_append]
  congr 1
  by_cases hc : (ps[k].length : Int) ≤ M
  · simp [hc]
  · simp [hc]
theorem strm_app (a b : List (List Int)) : strm (a ++ b) = strm a ++ strm b := by simp [strm]
theorem strm_one (m : List Int) : strm [m] = frm m := by simp [strm]
theorem selF_len (M : Int) (ps : List (List Int)) : (selF M ps).length ≤ ps.length ∧ (strm (selF M ps)).length ≤ ps.flatten.length + 4 * ps.length := by
  induction ps with
  | nil => simp [selF, strm]
  | cons m ps ih =>
    unfold selF at *
    rw [List.filter_cons]
    split
    · have e : strm (m :: ps.filter fun m => decide ((m.length : Int) ≤ M)) = frm m ++ strm (ps.filter fun m => decide ((m.length : Int) ≤ M)) := by simp [strm]
      have hl : (frm m).length = 4 + m.length := by simp [frm, bes_len]
      rw [e]
      simp only [List.length_append, List.length_cons, List.flatten_cons]
      omega
    · simp only [List.length_append, List.length_cons, List.flatten_cons]
      omega
theorem strm_by (ms : List (List Int)) (h : ∀ p ∈ ms, ∀ x ∈ p, 0 ≤ x ∧ x < 256) : ∀ x ∈ strm ms, 0 ≤ x ∧ x < 256 := by
  intro x hx
  obtain ⟨l, hl, hx⟩ := List.mem_flatten.1 hx
  obtain ⟨m, hm, rfl⟩ := List.mem_map.1 hl
  rcases List.mem_append.1 hx with hx | hx
  · exact bes_by _ _ x hx
  · exact h m hm x hx
theorem take_len_le (ps : List (List Int)) (k : Nat) : (ps.take k).flatten.length + 4 * (ps.take k).length ≤ ps.flatten.length + 4 * ps.length := by
  have h1 := flatF_le ps k
  have h2 : (ps.take k).length ≤ ps.length := by rw [List.length_take]; omega
  omega
set_option maxHeartbeats 8000000 in
theorem back_ok {st : St} (hw : WF st) {v : AV} {ps : List (List Int)} (most ct : Int) (h : RdE rowK st (fun _ => True) v ps) (hl : ps.flatten.length + ps.length ≤ 1048576) (hby : ∀ p ∈ ps, ∀ x ∈ p, 0 ≤ x ∧ x < 256) :
    ACalls Try.prog 5 [i64 most, v, i64 ct] st (fun r s => r = .pl (.bool true)) := by
  replace h := RdE.lt hw h
  have hvs := h.solid
  have hln := RdE.len h TRr
  have hM := bndF_in most
  refine acalls_of Try.func5 rfl (by kernel_rfl) (by simp [hvs]; exact ⟨rfl, rfl⟩) ?_
  repeat (first | (refine aw_seq ?_) | (refine aw_reg0 (by simp only [SZ, Nat.reduceAdd]; exact rfl) ?_) | (refine aw_reg (by decide +kernel) (by simp only [SZ, Nat.reduceAdd]; exact rfl) ?_) | (refine aw_regS (by decide +kernel) (by simp only [SZ, Nat.reduceAdd]; exact rfl) ?_) | (refine arl_nil ?_) | (refine aw_skip ?_) | (refine aw_block ?_) | (refine aw_exit ?_) | (refine aw_ret ?_) | (refine arl_cons rfl rfl (by simp +decide only [aop, abuiltin, aeval, aintBin, bin_int, aload_bump, SS, reduceIte, reduceCtorEq]; exact rfl) (by first | rfl | with_reducible assumption) rfl ?_) | (refine arl_none rfl rfl (by simp +decide only [aop, abuiltin, aeval, aintBin, bin_int, aload_bump, SS, reduceIte, reduceCtorEq]; exact rfl) rfl rfl ?_) | (refine arl_off rfl rfl ?_) | (refine aw_condT (by simp +decide only [aop, abuiltin, aeval, aintBin, bin_int, aload_bump, SS, reduceIte, reduceCtorEq]; first | done | exact rfl) ?_) | (refine aw_condF (by simp +decide only [aop, abuiltin, aeval, aintBin, bin_int, aload_bump, SS, reduceIte, reduceCtorEq]; first | done | exact rfl) ?_))
  refine arl_call rfl rfl rfl rfl rfl rfl ((fnewP (by repeat (first | assumption | (refine WF.bump ?_ _))) most).wf (by repeat (first | assumption | (refine WF.bump ?_ _) | (refine WF.put ?_ (by simp only [n_bump, n_put, n_touch, n_kill] at *; omega) (by simp only [n_bump, n_put, n_touch, n_kill] at *; omega)))) |>.mono ?_)
  rintro r s1 ⟨hw1, hn1, hE1, p, rfl, hpn, hF1⟩
  refine ⟨by first | rfl | with_reducible assumption, ?_⟩
  replace hE1 : Ext st s1 := Keeps.trans (by repeat (first | assumption | exact Keeps.refl _ _ | (refine Keeps.bumpR ?_ _) | (refine Keeps.put ?_ (by assumption) (by simp only [n_bump, n_put, n_touch, n_kill] at *; omega)))) hE1
  have hN1 := hE1.n
  have hp1 : p + 1 ≤ s1.n := hF1.2.1
  simp only [n_bump] at hpn
  repeat (first | (refine aw_seq ?_) | (refine aw_reg0 (by simp only [SZ, Nat.reduceAdd]; exact rfl) ?_) | (refine aw_reg (by decide +kernel) (by simp only [SZ, Nat.reduceAdd]; exact rfl) ?_) | (refine aw_regS (by decide +kernel) (by simp only [SZ, Nat.reduceAdd]; exact rfl) ?_) | (refine arl_nil ?_) | (refine aw_skip ?_) | (refine aw_block ?_) | (refine aw_exit ?_) | (refine aw_ret ?_) | (refine arl_cons rfl rfl (by simp +decide only [aop, abuiltin, aeval, aintBin, bin_int, aload_bump, SS, reduceIte, reduceCtorEq, pNil]; exact rfl) (by first | rfl | with_reducible assumption) rfl ?_) | (refine arl_none rfl rfl (by simp +decide only [aop, abuiltin, aeval, aintBin, bin_int, aload_bump, SS, reduceIte, reduceCtorEq, pNil]; exact rfl) rfl rfl ?_) | (refine arl_off rfl rfl ?_) | (refine aw_condT (by simp +decide only [aop, abuiltin, aeval, aintBin, bin_int, aload_bump, SS, reduceIte, reduceCtorEq, pNil]; first | done | exact rfl) ?_) | (refine aw_condF (by simp +decide only [aop, abuiltin, aeval, aintBin, bin_int, aload_bump, SS, reduceIte, reduceCtorEq, pNil]; first | done | exact rfl) ?_))
  refine arl_call rfl rfl rfl rfl rfl rfl ((falive_ok (by repeat (first | assumption | (refine WF.bump ?_ _)))).wf (by repeat (first | assumption | (refine WF.bump ?_ _) | (refine WF.put ?_ (by simp only [n_bump, n_put, n_touch, n_kill] at *; omega) (by simp only [n_bump, n_put, n_touch, n_kill] at *; omega)))) |>.mono ?_)
  rintro r s2 ⟨hw2, hn2, hE2, rfl⟩
  refine ⟨by first | rfl | with_reducible assumption, ?_⟩
  replace hE2 : Ext s1 s2 := Keeps.trans (by repeat (first | assumption | exact Keeps.refl _ _ | (refine Keeps.bumpR ?_ _) | (refine Keeps.put ?_ (by assumption) (by simp only [n_bump, n_put, n_touch, n_kill] at *; omega)))) hE2
  have hN2 := hE2.n
  have hN2 := hE2.n
  have hS2 := hE1.trans hE2
  replace hF1 := (hF1.up hE2).lift (lo' := s2.n) (by omega) (Nat.le_refl _)
  obtain ⟨lo, hlo⟩ : ∃ lo, s2.n = lo := ⟨_, rfl⟩
  rw [hlo] at hF1
  have hplo : p < lo := by omega
  repeat (first | (refine aw_seq ?_) | (refine aw_reg0 (by simp only [SZ, Nat.reduceAdd]; exact rfl) ?_) | (refine aw_reg (by decide +kernel) (by simp only [SZ, Nat.reduceAdd]; exact rfl) ?_) | (refine aw_regS (by decide +kernel) (by simp only [SZ, Nat.reduceAdd]; exact rfl) ?_) | (refine arl_nil ?_) | (refine aw_skip ?_) | (refine aw_block ?_) | (refine aw_exit ?_) | (refine aw_ret ?_) | (refine arl_cons rfl rfl (by simp +decide only [aop, abuiltin, aeval, aintBin, bin_int, aload_bump, SS, reduceIte, reduceCtorEq, lit0, litF0, hln]; exact rfl) (by first | rfl | with_reducible assumption) rfl ?_) | (refine arl_none rfl rfl (by simp +decide only [aop, abuiltin, aeval, aintBin, bin_int, aload_bump, SS, reduceIte, reduceCtorEq, lit0, litF0, hln]; exact rfl) rfl rfl ?_) | (refine arl_off rfl rfl ?_) | (refine aw_condT (by simp +decide only [aop, abuiltin, aeval, aintBin, bin_int, aload_bump, SS, reduceIte, reduceCtorEq, lit0, litF0, hln]; first | done | exact rfl) ?_) | (refine aw_condF (by simp +decide only [aop, abuiltin, aeval, aintBin, bin_int, aload_bump, SS, reduceIte, reduceCtorEq, lit0, litF0, hln]; first | done | exact rfl) ?_))
  refine AW.mono (AW.wf (aw_rounds_wf (fun m fr s => Ext st s ∧ ∃ (k gk : Nat), k ≤ ps.length ∧ m = ps.length - k ∧ fr 0 = i64 most ∧ fr 2 = i64 ct ∧ fr 7 = .ptr p 0 ∧ fr 9 ≠ .pl (.slice none 0 0) ∧ fr 29 = v ∧ fr 30 = i64 ps.length ∧ fr 31 = i64 k ∧ lo ≤ gk ∧ gk < s.n ∧ Fed s lo p (fun _ => False) (fun _ => False) (bndF most) [] ∧ OwX rowK s (fun g => g = gk) (fun _ g => g < st.n) BT (fr 9) (selF (bndF most) (ps.take k)) ∧ OwB s (fun g => lo ≤ g ∧ g ≠ gk) (fr 8) (strm (selF (bndF most) (ps.take k))))
    (Q := fun e fr s => e = .exit 0 ∧ Ext st s ∧ ∃ gk : Nat, fr 2 = i64 ct ∧ fr 7 = .ptr p 0 ∧ lo ≤ gk ∧ gk < s.n ∧ Fed s lo p (fun _ => False) (fun _ => False) (bndF most) [] ∧ OwX rowK s (fun g => g = gk) (fun _ g => g < st.n) BT (fr 9) (selF (bndF most) ps) ∧ OwB s (fun g => lo ≤ g ∧ g ≠ gk) (fr 8) (strm (selF (bndF most) ps))) ?_ ps.length _ _ (by repeat (first | assumption | (refine WF.bump ?_ _) | (refine WF.put ?_ (by simp only [n_bump, n_put, n_touch, n_kill] at *; omega) (by simp only [n_bump, n_put, n_touch, n_kill] at *; omega)))) ?_) (by repeat (first | assumption | (refine WF.bump ?_ _) | (refine WF.put ?_ (by simp only [n_bump, n_put, n_touch, n_kill] at *; omega) (by simp only [n_bump, n_put, n_touch, n_kill] at *; omega))))) ?_
  · rintro m fr sx hwx ⟨hE, k, gk, hk, rfl, f0, f2, f7, f9n, f29, f30, f31, hgk, hgn, hF, hK, hO⟩
    have hEn := hE.n
    obtain ⟨kv, f9⟩ : ∃ x, fr 9 = x := ⟨_, rfl⟩
    rw [f9] at hK f9n
    obtain ⟨ov, f8⟩ : ∃ x, fr 8 = x := ⟨_, rfl⟩
    rw [f8] at hO
    have hks := hK.solid
    have hos := hO.solid
    by_cases hlt : k < ps.length
    · have d1 : decide ((k : Int) < (ps.length : Int)) = true := decide_eq_true (by omega)
      obtain ⟨a, c, a1, a2, a3, a4, a5⟩ := row_at (h.up hE) .i64 k hlt
      have hcl := a5.len
      have hfl1 := flatF_le ps (k + 1)
      rw [flatF_succ ps k hlt, List.length_append] at hfl1
      have hsl := selF_len (bndF most) (ps.take k)
      have hsl2 := take_len_le ps k
      have hsel := selF_succ (bndF most) ps k hlt
      have hwk := wrap_succ (k := k) (by omega)
      repeat (first | (refine aw_seq ?_) | (refine aw_reg0 (by simp only [SZ, Nat.reduceAdd]; exact rfl) ?_) | (refine aw_reg (by decide +kernel) (by simp only [SZ, Nat.reduceAdd]; exact rfl) ?_) | (refine aw_regS (by decide +kernel) (by simp only [SZ, Nat.reduceAdd]; exact rfl) ?_) | (refine arl_nil ?_) | (refine aw_skip ?_) | (refine aw_block ?_) | (refine aw_exit ?_) | (refine aw_ret ?_) | (refine arl_cons rfl rfl (by simp +decide only [aop, abuiltin, aeval, aintBin, bin_int, aload_bump, SS, reduceIte, reduceCtorEq, f31, f30, d1, f29, a1, a3, f0]; exact rfl) (by first | rfl | with_reducible assumption) rfl ?_) | (refine arl_none rfl rfl (by simp +decide only [aop, abuiltin, aeval, aintBin, bin_int, aload_bump, SS, reduceIte, reduceCtorEq, f31, f30, d1, f29, a1, a3, f0]; exact rfl) rfl rfl ?_) | (refine arl_off rfl rfl ?_) | (refine aw_condT (by simp +decide only [aop, abuiltin, aeval, aintBin, bin_int, aload_bump, SS, reduceIte, reduceCtorEq, f31, f30, d1, f29, a1, a3, f0]; first | done | exact rfl) ?_) | (refine aw_condF (by simp +decide only [aop, abuiltin, aeval, aintBin, bin_int, aload_bump, SS, reduceIte, reduceCtorEq, f31, f30, d1, f29, a1, a3, f0]; first | done | exact rfl) ?_))
      refine arl_call rfl rfl rfl rfl rfl rfl ((copy_ok (by repeat (first | assumption | (refine WF.bump ?_ _))) (a5.up (by repeat (first | exact Keeps.refl _ _ | (refine Keeps.bumpR ?_ _)))) (by omega)).wf (by repeat (first | assumption | (refine WF.bump ?_ _) | (refine WF.put ?_ (by simp only [n_bump, n_put, n_touch, n_kill] at *; omega) (by simp only [n_bump, n_put, n_touch, n_kill] at *; omega)))) |>.mono ?_)
      rintro cv s3 ⟨hw3, hn3, hE3, hcs, hC⟩
      refine ⟨by first | rfl | with_reducible assumption, ?_⟩
      replace hE3 : Ext sx s3 := Keeps.trans (by repeat (first | assumption | exact Keeps.refl _ _ | (refine Keeps.bumpR ?_ _) | (refine Keeps.put ?_ (by assumption) (by simp only [n_bump, n_put, n_touch, n_kill] at *; omega)))) hE3
      have hN3 := hE3.n
      repeat (first | (refine aw_seq ?_) | (refine aw_reg0 (by simp only [SZ, Nat.reduceAdd]; exact rfl) ?_) | (refine aw_reg (by decide +kernel) (by simp only [SZ, Nat.reduceAdd]; exact rfl) ?_) | (refine aw_regS (by decide +kernel) (by simp only [SZ, Nat.reduceAdd]; exact rfl) ?_) | (refine arl_nil ?_) | (refine aw_skip ?_) | (refine aw_block ?_) | (refine aw_exit ?_) | (refine aw_ret ?_) | (refine arl_cons rfl rfl (by simp +decide only [aop, abuiltin, aeval, aintBin, bin_int, aload_bump, SS, reduceIte, reduceCtorEq]; exact rfl) (by first | rfl | with_reducible assumption) rfl ?_) | (refine arl_none rfl rfl (by simp +decide only [aop, abuiltin, aeval, aintBin, bin_int, aload_bump, SS, reduceIte, reduceCtorEq]; exact rfl) rfl rfl ?_) | (refine arl_off rfl rfl ?_) | (refine aw_condT (by simp +decide only [aop, abuiltin, aeval, aintBin, bin_int, aload_bump, SS, reduceIte, reduceCtorEq]; first | done | exact rfl) ?_) | (refine aw_condF (by simp +decide only [aop, abuiltin, aeval, aintBin, bin_int, aload_bump, SS, reduceIte, reduceCtorEq]; first | done | exact rfl) ?_))
      refine arl_call rfl rfl rfl rfl rfl rfl ((fput_ok (by repeat (first | assumption | (refine WF.bump ?_ _))) most (hC.rd.up (by repeat (first | exact Keeps.refl _ _ | (refine Keeps.bumpR ?_ _)))) (by omega)).wf (by repeat (first | assumption | (refine WF.bump ?_ _) | (refine WF.put ?_ (by simp only [n_bump, n_put, n_touch, n_kill] at *; omega) (by simp only [n_bump, n_put, n_touch, n_kill] at *; omega)))) |>.mono ?_)
      rintro r s4 ⟨hw4, hn4, hE4, wv, rfl, hwvs, hW⟩
      refine ⟨by first | rfl | with_reducible assumption, ?_⟩
      replace hE4 : Ext s3 s4 := Keeps.trans (by repeat (first | assumption | exact Keeps.refl _ _ | (refine Keeps.bumpR ?_ _) | (refine Keeps.put ?_ (by assumption) (by simp only [n_bump, n_put, n_touch, n_kill] at *; omega)))) hE4
      have hN4 := hE4.n
      have hlw := hW.rd.len
      replace hW := hW.lt hw4
      have hN3 := hE3.n
      have hN4 := hE4.n
      repeat (first | (refine aw_seq ?_) | (refine aw_reg0 (by simp only [SZ, Nat.reduceAdd]; exact rfl) ?_) | (refine aw_reg (by decide +kernel) (by simp only [SZ, Nat.reduceAdd]; exact rfl) ?_) | (refine aw_regS (by decide +kernel) (by simp only [SZ, Nat.reduceAdd]; exact rfl) ?_) | (refine arl_nil ?_) | (refine aw_skip ?_) | (refine aw_block ?_) | (refine aw_exit ?_) | (refine aw_ret ?_) | (refine arl_cons rfl rfl (by simp +decide only [aop, abuiltin, aeval, aintBin, bin_int, aload_bump, SS, reduceIte, reduceCtorEq, hcl, f0]; exact rfl) (by first | rfl | with_reducible assumption) rfl ?_) | (refine arl_none rfl rfl (by simp +decide only [aop, abuiltin, aeval, aintBin, bin_int, aload_bump, SS, reduceIte, reduceCtorEq, hcl, f0]; exact rfl) rfl rfl ?_) | (refine arl_off rfl rfl ?_) | (refine aw_condT (by simp +decide only [aop, abuiltin, aeval, aintBin, bin_int, aload_bump, SS, reduceIte, reduceCtorEq, hcl, f0]; first | done | exact rfl) ?_) | (refine aw_condF (by simp +decide only [aop, abuiltin, aeval, aintBin, bin_int, aload_bump, SS, reduceIte, reduceCtorEq, hcl, f0]; first | done | exact rfl) ?_))
      refine arl_call rfl rfl rfl rfl rfl rfl ((rbound_ok most).wf (by repeat (first | assumption | (refine WF.bump ?_ _) | (refine WF.put ?_ (by simp only [n_bump, n_put, n_touch, n_kill] at *; omega) (by simp only [n_bump, n_put, n_touch, n_kill] at *; omega)))) |>.mono ?_)
      rintro r s5 ⟨hw5, hn5, hE5, rfl⟩
      refine ⟨by first | rfl | with_reducible assumption, ?_⟩
      replace hE5 : Ext s4 s5 := Keeps.trans (by repeat (first | assumption | exact Keeps.refl _ _ | (refine Keeps.bumpR ?_ _) | (refine Keeps.put ?_ (by assumption) (by simp only [n_bump, n_put, n_touch, n_kill] at *; omega)))) hE5
      have hN5 := hE5.n
      have hN5 := hE5.n
      have hT5 := ((hE.trans hE3).trans hE4).trans hE5
      have hX5 := (hE3.trans hE4).trans hE5
      by_cases hbig : bndF most < ps[k].length
      · have d2 : decide (bndF most < (ps[k].length : Int)) = true := decide_eq_true hbig
        have hfp : fput most ps[k] = (4, []) := by unfold fput; rw [if_pos hbig]
        rw [hfp] at hlw
        rw [hfp]
        rw [if_neg (by omega), List.append_nil] at hsel
        repeat (first | (refine aw_seq ?_) | (refine aw_reg0 (by simp only [SZ, Nat.reduceAdd]; exact rfl) ?_) | (refine aw_reg (by decide +kernel) (by simp only [SZ, Nat.reduceAdd]; exact rfl) ?_) | (refine aw_regS (by decide +kernel) (by simp only [SZ, Nat.reduceAdd]; exact rfl) ?_) | (refine arl_nil ?_) | (refine aw_skip ?_) | (refine aw_block ?_) | (refine aw_exit ?_) | (refine aw_ret ?_) | (refine arl_cons rfl rfl (by simp +decide only [aop, abuiltin, aeval, aintBin, bin_int, aload_bump, SS, reduceIte, reduceCtorEq, d2, hlw, f31, hwk]; exact rfl) (by first | rfl | with_reducible assumption) rfl ?_) | (refine arl_none rfl rfl (by simp +decide only [aop, abuiltin, aeval, aintBin, bin_int, aload_bump, SS, reduceIte, reduceCtorEq, d2, hlw, f31, hwk]; exact rfl) rfl rfl ?_) | (refine arl_off rfl rfl ?_) | (refine aw_condT (by simp +decide only [aop, abuiltin, aeval, aintBin, bin_int, aload_bump, SS, reduceIte, reduceCtorEq, d2, hlw, f31, hwk]; first | done | exact rfl) ?_) | (refine aw_condF (by simp +decide only [aop, abuiltin, aeval, aintBin, bin_int, aload_bump, SS, reduceIte, reduceCtorEq, d2, hlw, f31, hwk]; first | done | exact rfl) ?_))
        refine ⟨ps.length - (k + 1), by omega, hT5.trans (by repeat (first | exact Keeps.refl _ _ | (refine Keeps.bumpR ?_ _))), k + 1, gk, by omega, rfl, f0, f2, f7, ?_, f29, f30, rfl, hgk, (by first | omega | (simp only [n_bump, n_put]; omega) | (simp only [n_bump, n_put] at *; omega)), (hF.up hX5).up (by repeat (first | exact Keeps.refl _ _ | (refine Keeps.bumpR ?_ _))), ?_, ?_⟩
        · show fr 9 ≠ _; rw [f9]; exact f9n
        · show OwX _ _ _ _ _ (fr 9) _; rw [f9, hsel]; exact (hK.up hX5).up (by repeat (first | exact Keeps.refl _ _ | (refine Keeps.bumpR ?_ _)))
        · show OwB _ _ (fr 8) _; rw [f8, hsel]; exact (hO.up hX5).up (by repeat (first | exact Keeps.refl _ _ | (refine Keeps.bumpR ?_ _)))
      · have d2 : decide (bndF most < (ps[k].length : Int)) = false := decide_eq_false hbig
        have hfp : fput most ps[k] = (0, frm ps[k]) := by unfold fput frm; rw [if_neg hbig]
        rw [hfp] at hW
        simp only at hW
        rw [hfp]
        rw [if_pos (by omega)] at hsel
        have hfl : (frm ps[k]).length = 4 + ps[k].length := by simp [frm, bes_len]
        repeat (first | (refine aw_seq ?_) | (refine aw_reg0 (by simp only [SZ, Nat.reduceAdd]; exact rfl) ?_) | (refine aw_reg (by decide +kernel) (by simp only [SZ, Nat.reduceAdd]; exact rfl) ?_) | (refine aw_regS (by decide +kernel) (by simp only [SZ, Nat.reduceAdd]; exact rfl) ?_) | (refine arl_nil ?_) | (refine aw_skip ?_) | (refine aw_block ?_) | (refine aw_exit ?_) | (refine aw_ret ?_) | (refine arl_cons rfl rfl (by simp +decide only [aop, abuiltin, aeval, aintBin, bin_int, aload_bump, SS, reduceIte, reduceCtorEq, d2, f8]; exact rfl) (by first | rfl | with_reducible assumption) rfl ?_) | (refine arl_none rfl rfl (by simp +decide only [aop, abuiltin, aeval, aintBin, bin_int, aload_bump, SS, reduceIte, reduceCtorEq, d2, f8]; exact rfl) rfl rfl ?_) | (refine arl_off rfl rfl ?_) | (refine aw_condT (by simp +decide only [aop, abuiltin, aeval, aintBin, bin_int, aload_bump, SS, reduceIte, reduceCtorEq, d2, f8]; first | done | exact rfl) ?_) | (refine aw_condF (by simp +decide only [aop, abuiltin, aeval, aintBin, bin_int, aload_bump, SS, reduceIte, reduceCtorEq, d2, f8]; first | done | exact rfl) ?_))
        refine arl_call rfl rfl rfl rfl rfl rfl ((cat_ok (by repeat (first | assumption | (refine WF.bump ?_ _))) ((hO.rd.up hX5).up (by repeat (first | exact Keeps.refl _ _ | (refine Keeps.bumpR ?_ _)))) ((hW.rd.up hE5).up (by repeat (first | exact Keeps.refl _ _ | (refine Keeps.bumpR ?_ _)))) (by omega)).wf (by repeat (first | assumption | (refine WF.bump ?_ _) | (refine WF.put ?_ (by simp only [n_bump, n_put, n_touch, n_kill] at *; omega) (by simp only [n_bump, n_put, n_touch, n_kill] at *; omega)))) |>.mono ?_)
        rintro al s6 ⟨hw6, hn6, hE6, hals, hAl⟩
        refine ⟨by first | rfl | with_reducible assumption, ?_⟩
        replace hE6 : Ext s5 s6 := Keeps.trans (by repeat (first | assumption | exact Keeps.refl _ _ | (refine Keeps.bumpR ?_ _) | (refine Keeps.put ?_ (by assumption) (by simp only [n_bump, n_put, n_touch, n_kill] at *; omega)))) hE6
        have hN6 := hE6.n
        replace hAl := hAl.lt hw6
        have hN6 := hE6.n
        have hX6 := hX5.trans hE6
        have hcb := a5.cell
        repeat (first | (refine aw_seq ?_) | (refine aw_reg0 (by simp only [SZ, Nat.reduceAdd]; exact rfl) ?_) | (refine aw_reg (by decide +kernel) (by simp only [SZ, Nat.reduceAdd]; exact rfl) ?_) | (refine aw_regS (by decide +kernel) (by simp only [SZ, Nat.reduceAdd]; exact rfl) ?_) | (refine arl_nil ?_) | (refine aw_skip ?_) | (refine aw_block ?_) | (refine aw_exit ?_) | (refine aw_ret ?_) | (refine arl_cons rfl rfl (by simp +decide only [aop, abuiltin, aeval, aintBin, bin_int, aload_bump, SS, reduceIte, reduceCtorEq, f9, litF1 a5]; exact rfl) (by first | rfl | with_reducible assumption) rfl ?_) | (refine arl_none rfl rfl (by simp +decide only [aop, abuiltin, aeval, aintBin, bin_int, aload_bump, SS, reduceIte, reduceCtorEq, f9, litF1 a5]; exact rfl) rfl rfl ?_) | (refine arl_off rfl rfl ?_) | (refine aw_condT (by simp +decide only [aop, abuiltin, aeval, aintBin, bin_int, aload_bump, SS, reduceIte, reduceCtorEq, f9, litF1 a5]; first | done | exact rfl) ?_) | (refine aw_condF (by simp +decide only [aop, abuiltin, aeval, aintBin, bin_int, aload_bump, SS, reduceIte, reduceCtorEq, f9, litF1 a5]; first | done | exact rfl) ?_))
        refine arl_appX (k := rowK) (K0 := fun g => g = gk) (L0 := fun _ g => g < st.n) (Kx := fun _ => True) (Kn := fun g => g < st.n) (K := fun g => g = gk) (L := fun _ g => g < st.n) (xs := selF (bndF most) (ps.take k)) (ns := [ps[k]]) TRr rfl rfl rfl ((hK.up hX6).up (by repeat (first | assumption | exact Keeps.refl _ _ | (refine Keeps.bumpR ?_ _) | (refine Keeps.put ?_ (by assumption) (by simp only [n_bump, n_put, n_touch, n_kill] at *; omega))))) (RdL.one ⟨c, rfl, ?pvR⟩ rfl _ trivial _) (fun g h h' => by omega) ⟨(by first | omega | (simp only [n_bump, n_put]; omega) | (simp only [n_bump, n_put] at *; omega)), fun h => absurd h f9n⟩ (fun _ h => h) (fun _ _ _ h => h) (fun _ _ _ _ h => h) ?hfr (by simp; omega) (by simp; omega) ?_
        case pvR => exact ((a5.mono (fun g hg => hg.2)).up hX6).up (by repeat (first | assumption | exact Keeps.refl _ _ | (refine Keeps.bumpR ?_ _) | (refine Keeps.put ?_ (by assumption) (by simp only [n_bump, n_put, n_touch, n_kill] at *; omega))))
        case hfr =>
          rw [get_put_ne _ (by omega)]
          exact fresh hw6 (by first | omega | (simp only [n_bump, n_put]; omega) | (simp only [n_bump, n_put] at *; omega))
        intro y s7 hO7 hn7 hE7 hwf7
        have hw7 : WF s7 := hwf7 (by repeat (first | assumption | (refine WF.bump ?_ _) | (refine WF.put ?_ (by simp only [n_bump, n_put, n_touch, n_kill] at *; omega) (by simp only [n_bump, n_put, n_touch, n_kill] at *; omega)))) (by simp only [n_bump, n_put, n_touch, n_kill] at *; omega)
        replace hE7 : Keeps (fun g => g = gk) s6 s7 := Keeps.trans (Keeps.mono (G := fun _ => False) (show Ext s6 _ from (by repeat (first | assumption | exact Keeps.refl _ _ | (refine Keeps.bumpR ?_ _) | (refine Keeps.put ?_ (by assumption) (by simp only [n_bump, n_put, n_touch, n_kill] at *; omega))))) (fun _ h => h.elim)) hE7
        have hys := hO7.solid
        have hyn := OwX.ne hO7
        repeat (first | (refine aw_seq ?_) | (refine aw_reg0 (by simp only [SZ, Nat.reduceAdd]; exact rfl) ?_) | (refine aw_reg (by decide +kernel) (by simp only [SZ, Nat.reduceAdd]; exact rfl) ?_) | (refine aw_regS (by decide +kernel) (by simp only [SZ, Nat.reduceAdd]; exact rfl) ?_) | (refine arl_nil ?_) | (refine aw_skip ?_) | (refine aw_block ?_) | (refine aw_exit ?_) | (refine aw_ret ?_) | (refine arl_cons rfl rfl (by simp +decide only [aop, abuiltin, aeval, aintBin, bin_int, aload_bump, SS, reduceIte, reduceCtorEq, f31, hwk]; exact rfl) (by first | rfl | with_reducible assumption) rfl ?_) | (refine arl_none rfl rfl (by simp +decide only [aop, abuiltin, aeval, aintBin, bin_int, aload_bump, SS, reduceIte, reduceCtorEq, f31, hwk]; exact rfl) rfl rfl ?_) | (refine arl_off rfl rfl ?_) | (refine aw_condT (by simp +decide only [aop, abuiltin, aeval, aintBin, bin_int, aload_bump, SS, reduceIte, reduceCtorEq, f31, hwk]; first | done | exact rfl) ?_) | (refine aw_condF (by simp +decide only [aop, abuiltin, aeval, aintBin, bin_int, aload_bump, SS, reduceIte, reduceCtorEq, f31, hwk]; first | done | exact rfl) ?_))
        simp only [n_bump, n_put] at hn7
        refine ⟨ps.length - (k + 1), by omega, (Keeps.call (hT5.trans hE6) hE7 hw (fun g hg => .inr (by omega))).trans (by repeat (first | exact Keeps.refl _ _ | (refine Keeps.bumpR ?_ _))), k + 1, gk, by omega, rfl, f0, f2, f7, hyn, f29, f30, rfl, hgk, (by first | omega | (simp only [n_bump, n_put]; omega) | (simp only [n_bump, n_put] at *; omega)), ((hF.up hX6).keep hE7 (fun h => by omega) (fun _ h => h.elim) (fun _ h => h.elim)).up (by repeat (first | exact Keeps.refl _ _ | (refine Keeps.bumpR ?_ _))), ?_, ?_⟩
        · rw [hsel]; exact hO7.up (by repeat (first | exact Keeps.refl _ _ | (refine Keeps.bumpR ?_ _)))
        · rw [hsel, strm_app, strm_one]
          exact ((hAl.keep hE7 (fun g hg h => by have := hg.1; simp only [n_bump] at this; omega)).mono (fun g hg => by have := hg.1; simp only [n_bump] at this; omega)).up (by repeat (first | exact Keeps.refl _ _ | (refine Keeps.bumpR ?_ _)))
    · have d1 : decide ((k : Int) < (ps.length : Int)) = false := decide_eq_false (by omega)
      obtain rfl : k = ps.length := by omega
      rw [List.take_length] at hK hO
      repeat (first | (refine aw_seq ?_) | (refine aw_reg0 (by simp only [SZ, Nat.reduceAdd]; exact rfl) ?_) | (refine aw_reg (by decide +kernel) (by simp only [SZ, Nat.reduceAdd]; exact rfl) ?_) | (refine aw_regS (by decide +kernel) (by simp only [SZ, Nat.reduceAdd]; exact rfl) ?_) | (refine arl_nil ?_) | (refine aw_skip ?_) | (refine aw_block ?_) | (refine aw_exit ?_) | (refine aw_ret ?_) | (refine arl_cons rfl rfl (by simp +decide only [aop, abuiltin, aeval, aintBin, bin_int, aload_bump, SS, reduceIte, reduceCtorEq, f31, f30, d1]; exact rfl) (by first | rfl | with_reducible assumption) rfl ?_) | (refine arl_none rfl rfl (by simp +decide only [aop, abuiltin, aeval, aintBin, bin_int, aload_bump, SS, reduceIte, reduceCtorEq, f31, f30, d1]; exact rfl) rfl rfl ?_) | (refine arl_off rfl rfl ?_) | (refine aw_condT (by simp +decide only [aop, abuiltin, aeval, aintBin, bin_int, aload_bump, SS, reduceIte, reduceCtorEq, f31, f30, d1]; first | done | exact rfl) ?_) | (refine aw_condF (by simp +decide only [aop, abuiltin, aeval, aintBin, bin_int, aload_bump, SS, reduceIte, reduceCtorEq, f31, f30, d1]; first | done | exact rfl) ?_))
      refine ⟨rfl, hE.trans (by repeat (first | exact Keeps.refl _ _ | (refine Keeps.bumpR ?_ _))), gk, f2, f7, hgk, (by first | omega | (simp only [n_bump, n_put]; omega) | (simp only [n_bump, n_put] at *; omega)), hF.up (by repeat (first | exact Keeps.refl _ _ | (refine Keeps.bumpR ?_ _))), ?_, ?_⟩
      · show OwX _ _ _ _ _ (fr 9) _; rw [f9]; exact hK.up (by repeat (first | exact Keeps.refl _ _ | (refine Keeps.bumpR ?_ _)))
      · show OwB _ _ (fr 8) _; rw [f8]; exact hO.up (by repeat (first | exact Keeps.refl _ _ | (refine Keeps.bumpR ?_ _)))
  · refine ⟨hS2.trans (by repeat (first | assumption | exact Keeps.refl _ _ | (refine Keeps.bumpR ?_ _) | (refine Keeps.put ?_ (by assumption) (by simp only [n_bump, n_put, n_touch, n_kill] at *; omega)))), 0, s2.n + 2, by omega, rfl, rfl, rfl, rfl, ?_, rfl, rfl, rfl, ?_, ?_, hF1.up (by repeat (first | assumption | exact Keeps.refl _ _ | (refine Keeps.bumpR ?_ _) | (refine Keeps.put ?_ (by assumption) (by simp only [n_bump, n_put, n_touch, n_kill] at *; omega)))), ?_, ?_⟩
    · intro h; cases h
    · omega
    · simp only [n_bump, n_put]; omega
    · rw [List.take_zero]
      exact OwX.new' (k := rowK) _ (get_put _ _)
    · rw [List.take_zero]
      exact .inr ⟨_, _, rfl, (get_put_ne _ (by first | omega | (simp only [n_bump, n_put]; omega) | (simp only [n_bump, n_put] at *; omega))).trans (get_put _ _), ⟨by omega, by omega⟩⟩
  rintro e fr sx ⟨hwx, hnx, rfl, hE, gk, f2, f7, hgk, hgn, hF, hK, hO⟩
  have hEn := hE.n
  have hsl := selF_len (bndF most) ps
  have hcb := cutS_strm (bndF most) hM.2 (selF (bndF most) ps) (fun m hm => by simpa using (List.mem_filter.1 hm).2)
  have hbb := strm_by (selF (bndF most) ps) (fun p hp => hby p (List.mem_filter.1 hp).1)
  have hllen : ∀ f ∈ selF (bndF most) ps, f.length ≤ 140737488355327 := fun f hf => by
    have := (List.mem_filter.1 hf).2
    simp only [decide_eq_true_eq] at this
    omega
  obtain ⟨l, hll⟩ : ∃ l, selF (bndF most) ps = l := ⟨_, rfl⟩
  rw [hll] at hK hO hsl hcb hbb hllen
  obtain ⟨b, hbl⟩ : ∃ b, strm l = b := ⟨_, rfl⟩
  rw [hbl] at hO hsl hcb hbb
  obtain ⟨kv, f9⟩ : ∃ x, fr 9 = x := ⟨_, rfl⟩
  rw [f9] at hK
  obtain ⟨ov, f8⟩ : ∃ x, fr 8 = x := ⟨_, rfl⟩
  rw [f8] at hO
  have hks := hK.solid
  have hos := hO.solid
  have hlb := hO.rd.len
  refine aw_cut (M := fun e fr' s => e = .normal ∧ WF s ∧ Ext sx s ∧ ∃ j : Nat, j ≤ b.length ∧ fr' 2 = i64 j ∧ fr' 7 = .ptr p 0 ∧ fr' 8 = ov ∧ fr' 9 = kv) ?_ ?_
  · by_cases h0 : ct < 0
    · have d1 : decide (ct < 0) = true := decide_eq_true h0
      repeat (first | (refine aw_seq ?_) | (refine aw_reg0 (by simp only [SZ, Nat.reduceAdd]; exact rfl) ?_) | (refine aw_reg (by decide +kernel) (by simp only [SZ, Nat.reduceAdd]; exact rfl) ?_) | (refine aw_regS (by decide +kernel) (by simp only [SZ, Nat.reduceAdd]; exact rfl) ?_) | (refine arl_nil ?_) | (refine aw_skip ?_) | (refine aw_block ?_) | (refine aw_exit ?_) | (refine aw_ret ?_) | (refine arl_cons rfl rfl (by simp +decide only [aop, abuiltin, aeval, aintBin, bin_int, aload_bump, SS, reduceIte, reduceCtorEq, f2, d1, f8, hlb]; exact rfl) (by first | rfl | with_reducible assumption) rfl ?_) | (refine arl_none rfl rfl (by simp +decide only [aop, abuiltin, aeval, aintBin, bin_int, aload_bump, SS, reduceIte, reduceCtorEq, f2, d1, f8, hlb]; exact rfl) rfl rfl ?_) | (refine arl_off rfl rfl ?_) | (refine aw_condT (by simp +decide only [aop, abuiltin, aeval, aintBin, bin_int, aload_bump, SS, reduceIte, reduceCtorEq, f2, d1, f8, hlb]; first | done | exact rfl) ?_) | (refine aw_condF (by simp +decide only [aop, abuiltin, aeval, aintBin, bin_int, aload_bump, SS, reduceIte, reduceCtorEq, f2, d1, f8, hlb]; first | done | exact rfl) ?_))
      exact ⟨rfl, (by repeat (first | assumption | (refine WF.bump ?_ _))), (by repeat (first | exact Keeps.refl _ _ | (refine Keeps.bumpR ?_ _))), b.length, Nat.le_refl _, rfl, f7, f8, f9⟩
    · have d1 : decide (ct < 0) = false := decide_eq_false h0
      by_cases h1 : (b.length : Int) < ct
      · have d2 : decide ((b.length : Int) < ct) = true := decide_eq_true h1
        repeat (first | (refine aw_seq ?_) | (refine aw_reg0 (by simp only [SZ, Nat.reduceAdd]; exact rfl) ?_) | (refine aw_reg (by decide +kernel) (by simp only [SZ, Nat.reduceAdd]; exact rfl) ?_) | (refine aw_regS (by decide +kernel) (by simp only [SZ, Nat.reduceAdd]; exact rfl) ?_) | (refine arl_nil ?_) | (refine aw_skip ?_) | (refine aw_block ?_) | (refine aw_exit ?_) | (refine aw_ret ?_) | (refine arl_cons rfl rfl (by simp +decide only [aop, abuiltin, aeval, aintBin, bin_int, aload_bump, SS, reduceIte, reduceCtorEq, f2, d1, f8, hlb, d2]; exact rfl) (by first | rfl | with_reducible assumption) rfl ?_) | (refine arl_none rfl rfl (by simp +decide only [aop, abuiltin, aeval, aintBin, bin_int, aload_bump, SS, reduceIte, reduceCtorEq, f2, d1, f8, hlb, d2]; exact rfl) rfl rfl ?_) | (refine arl_off rfl rfl ?_) | (refine aw_condT (by simp +decide only [aop, abuiltin, aeval, aintBin, bin_int, aload_bump, SS, reduceIte, reduceCtorEq, f2, d1, f8, hlb, d2]; first | done | exact rfl) ?_) | (refine aw_condF (by simp +decide only [aop, abuiltin, aeval, aintBin, bin_int, aload_bump, SS, reduceIte, reduceCtorEq, f2, d1, f8, hlb, d2]; first | done | exact rfl) ?_))
        exact ⟨rfl, (by repeat (first | assumption | (refine WF.bump ?_ _))), (by repeat (first | exact Keeps.refl _ _ | (refine Keeps.bumpR ?_ _))), b.length, Nat.le_refl _, rfl, f7, f8, f9⟩
      · have d2 : decide ((b.length : Int) < ct) = false := decide_eq_false h1
        repeat (first | (refine aw_seq ?_) | (refine aw_reg0 (by simp only [SZ, Nat.reduceAdd]; exact rfl) ?_) | (refine aw_reg (by decide +kernel) (by simp only [SZ, Nat.reduceAdd]; exact rfl) ?_) | (refine aw_regS (by decide +kernel) (by simp only [SZ, Nat.reduceAdd]; exact rfl) ?_) | (refine arl_nil ?_) | (refine aw_skip ?_) | (refine aw_block ?_) | (refine aw_exit ?_) | (refine aw_ret ?_) | (refine arl_cons rfl rfl (by simp +decide only [aop, abuiltin, aeval, aintBin, bin_int, aload_bump, SS, reduceIte, reduceCtorEq, f2, d1, f8, hlb, d2]; exact rfl) (by first | rfl | with_reducible assumption) rfl ?_) | (refine arl_none rfl rfl (by simp +decide only [aop, abuiltin, aeval, aintBin, bin_int, aload_bump, SS, reduceIte, reduceCtorEq, f2, d1, f8, hlb, d2]; exact rfl) rfl rfl ?_) | (refine arl_off rfl rfl ?_) | (refine aw_condT (by simp +decide only [aop, abuiltin, aeval, aintBin, bin_int, aload_bump, SS, reduceIte, reduceCtorEq, f2, d1, f8, hlb, d2]; first | done | exact rfl) ?_) | (refine aw_condF (by simp +decide only [aop, abuiltin, aeval, aintBin, bin_int, aload_bump, SS, reduceIte, reduceCtorEq, f2, d1, f8, hlb, d2]; first | done | exact rfl) ?_))
        exact ⟨rfl, (by repeat (first | assumption | (refine WF.bump ?_ _))), (by repeat (first | exact Keeps.refl _ _ | (refine Keeps.bumpR ?_ _))), ct.toNat, by omega, by show fr 2 = _; rw [f2]; congr 3; omega, f7, f8, f9⟩
  rintro e fr2 s22 ⟨rfl, hw22, hE22, j, hj, f2, f7, f8, f9⟩
  have hN22 := hE22.n
  repeat (first | (refine aw_seq ?_) | (refine aw_reg0 (by simp only [SZ, Nat.reduceAdd]; exact rfl) ?_) | (refine aw_reg (by decide +kernel) (by simp only [SZ, Nat.reduceAdd]; exact rfl) ?_) | (refine aw_regS (by decide +kernel) (by simp only [SZ, Nat.reduceAdd]; exact rfl) ?_) | (refine arl_nil ?_) | (refine aw_skip ?_) | (refine aw_block ?_) | (refine aw_exit ?_) | (refine aw_ret ?_) | (refine arl_cons rfl rfl (by simp +decide only [aop, abuiltin, aeval, aintBin, bin_int, aload_bump, SS, reduceIte, reduceCtorEq, f7, f8, f2]; exact rfl) (by first | rfl | with_reducible assumption) rfl ?_) | (refine arl_none rfl rfl (by simp +decide only [aop, abuiltin, aeval, aintBin, bin_int, aload_bump, SS, reduceIte, reduceCtorEq, f7, f8, f2]; exact rfl) rfl rfl ?_) | (refine arl_off rfl rfl ?_) | (refine aw_condT (by simp +decide only [aop, abuiltin, aeval, aintBin, bin_int, aload_bump, SS, reduceIte, reduceCtorEq, f7, f8, f2]; first | done | exact rfl) ?_) | (refine aw_condF (by simp +decide only [aop, abuiltin, aeval, aintBin, bin_int, aload_bump, SS, reduceIte, reduceCtorEq, f7, f8, f2]; first | done | exact rfl) ?_))
  refine arl_call rfl rfl rfl rfl rfl rfl ((piece_ok (by repeat (first | assumption | (refine WF.bump ?_ _))) ((hO.rd.up hE22).up (by repeat (first | exact Keeps.refl _ _ | (refine Keeps.bumpR ?_ _)))) 0 j (by omega) (by omega)).wf (by repeat (first | assumption | (refine WF.bump ?_ _) | (refine WF.put ?_ (by simp only [n_bump, n_put, n_touch, n_kill] at *; omega) (by simp only [n_bump, n_put, n_touch, n_kill] at *; omega)))) |>.mono ?_)
  rintro pv s3 ⟨hw3, hn3, hE3, hpvs, hP⟩
  refine ⟨by first | rfl | with_reducible assumption, ?_⟩
  replace hE3 : Ext s22 s3 := Keeps.trans (by repeat (first | assumption | exact Keeps.refl _ _ | (refine Keeps.bumpR ?_ _) | (refine Keeps.put ?_ (by assumption) (by simp only [n_bump, n_put, n_touch, n_kill] at *; omega)))) hE3
  have hN3 := hE3.n
  replace hP := hP.rd.lt hw3
  have hN3 := hE3.n
  have hT3 := (hE.trans hE22).trans hE3
  simp only [Int.toNat_natCast, Int.toNat_zero, List.drop_zero, Nat.sub_zero] at hP
  repeat (first | (refine aw_seq ?_) | (refine aw_reg0 (by simp only [SZ, Nat.reduceAdd]; exact rfl) ?_) | (refine aw_reg (by decide +kernel) (by simp only [SZ, Nat.reduceAdd]; exact rfl) ?_) | (refine aw_regS (by decide +kernel) (by simp only [SZ, Nat.reduceAdd]; exact rfl) ?_) | (refine arl_nil ?_) | (refine aw_skip ?_) | (refine aw_block ?_) | (refine aw_exit ?_) | (refine aw_ret ?_) | (refine arl_cons rfl rfl (by simp +decide only [aop, abuiltin, aeval, aintBin, bin_int, aload_bump, SS, reduceIte, reduceCtorEq]; exact rfl) (by first | rfl | with_reducible assumption) rfl ?_) | (refine arl_none rfl rfl (by simp +decide only [aop, abuiltin, aeval, aintBin, bin_int, aload_bump, SS, reduceIte, reduceCtorEq]; exact rfl) rfl rfl ?_) | (refine arl_off rfl rfl ?_) | (refine aw_condT (by simp +decide only [aop, abuiltin, aeval, aintBin, bin_int, aload_bump, SS, reduceIte, reduceCtorEq]; first | done | exact rfl) ?_) | (refine aw_condF (by simp +decide only [aop, abuiltin, aeval, aintBin, bin_int, aload_bump, SS, reduceIte, reduceCtorEq]; first | done | exact rfl) ?_))
  refine arl_call rfl rfl rfl rfl rfl rfl ((fed_ok (by repeat (first | assumption | (refine WF.bump ?_ _))) (((hF.up hE22).up hE3).up (by repeat (first | exact Keeps.refl _ _ | (refine Keeps.bumpR ?_ _)))) hM.2 (hP.up (by repeat (first | exact Keeps.refl _ _ | (refine Keeps.bumpR ?_ _)))) (fun g hg => ⟨fun h => h, fun h => h, by have := hg.1; simp only [n_bump] at this; omega⟩) (fun x hx => hbb x (List.mem_of_mem_take (by simpa using hx))) (by simp only [List.length_nil, List.length_take]; omega)).wf (by repeat (first | assumption | (refine WF.bump ?_ _) | (refine WF.put ?_ (by simp only [n_bump, n_put, n_touch, n_kill] at *; omega) (by simp only [n_bump, n_put, n_touch, n_kill] at *; omega)))) |>.mono ?_)
  rintro res s4 ⟨hw4, hn4, hE4, xa, KX, KH, KB, L, fs, rfl, hxas, hX, hG, hfs, -, hF4⟩
  refine ⟨rfl, ?_⟩
  rw [List.nil_append] at hfs hF4 ⊢
  rw [cutS_nil] at hfs
  simp only [List.nil_append] at hfs
  replace hE4 : Keeps (fun g => g = p ∨ False ∨ False) s3 s4 := Keeps.trans (Keeps.mono (G := fun _ => False) (show Ext s3 _ from (by repeat (first | exact Keeps.refl _ _ | (refine Keeps.bumpR ?_ _)))) (fun _ h => h.elim)) hE4
  have hN4 := hE4.n
  have hT4 : Ext st s4 := Keeps.call hT3 hE4 hw (fun g hg => .inr (by rcases hg with h | h | h; omega; exact h.elim; exact h.elim))
  have hnp : ∀ {g}, lo ≤ g → ¬ (g = p ∨ False ∨ False) := fun hg h => by rcases h with h | h | h; omega; exact h; exact h
  have hO4 := ((hO.rd.up hE22).up hE3).keep hE4 (fun g hg => hnp hg.1)
  have hK4 := ((hK.up hE22).up hE3).keep hE4 (fun g hg => hnp (by omega)) (fun _ g hg h => by rcases h with h | h | h; omega; exact h; exact h)
  have hKH4 : ∀ g, KH g → lo ≤ g ∧ g < s4.n := hF4.2.2.1
  have hKB4 : ∀ g, KB g → lo ≤ g ∧ g < s4.n := hF4.2.2.2.1
  simp only [n_bump] at hG hn4
  have hgH : ∀ g, KH g → s3.n ≤ g := fun g hg => by rcases hG.h g hg with h | h; exact h.elim; omega
  have hgB : ∀ g, KB g → s3.n ≤ g := fun g hg => by rcases hG.b g hg with h | h; exact h.elim; omega
  repeat (first | (refine aw_seq ?_) | (refine aw_reg0 (by simp only [SZ, Nat.reduceAdd]; exact rfl) ?_) | (refine aw_reg (by decide +kernel) (by simp only [SZ, Nat.reduceAdd]; exact rfl) ?_) | (refine aw_regS (by decide +kernel) (by simp only [SZ, Nat.reduceAdd]; exact rfl) ?_) | (refine arl_nil ?_) | (refine aw_skip ?_) | (refine aw_block ?_) | (refine aw_exit ?_) | (refine aw_ret ?_) | (refine arl_cons rfl rfl (by simp +decide only [aop, abuiltin, aeval, aintBin, bin_int, aload_bump, SS, reduceIte, reduceCtorEq, f7, f8, f2, hlb]; exact rfl) (by first | rfl | with_reducible assumption) rfl ?_) | (refine arl_none rfl rfl (by simp +decide only [aop, abuiltin, aeval, aintBin, bin_int, aload_bump, SS, reduceIte, reduceCtorEq, f7, f8, f2, hlb]; exact rfl) rfl rfl ?_) | (refine arl_off rfl rfl ?_) | (refine aw_condT (by simp +decide only [aop, abuiltin, aeval, aintBin, bin_int, aload_bump, SS, reduceIte, reduceCtorEq, f7, f8, f2, hlb]; first | done | exact rfl) ?_) | (refine aw_condF (by simp +decide only [aop, abuiltin, aeval, aintBin, bin_int, aload_bump, SS, reduceIte, reduceCtorEq, f7, f8, f2, hlb]; first | done | exact rfl) ?_))
  refine arl_call rfl rfl rfl rfl rfl rfl ((piece_ok (by repeat (first | assumption | (refine WF.bump ?_ _))) (hO4.up (by repeat (first | exact Keeps.refl _ _ | (refine Keeps.bumpR ?_ _)))) j b.length (by omega) (by omega)).wf (by repeat (first | assumption | (refine WF.bump ?_ _) | (refine WF.put ?_ (by simp only [n_bump, n_put, n_touch, n_kill] at *; omega) (by simp only [n_bump, n_put, n_touch, n_kill] at *; omega)))) |>.mono ?_)
  rintro pw s5 ⟨hw5, hn5, hE5, hpws, hP2⟩
  refine ⟨by first | rfl | with_reducible assumption, ?_⟩
  replace hE5 : Ext s4 s5 := Keeps.trans (by repeat (first | assumption | exact Keeps.refl _ _ | (refine Keeps.bumpR ?_ _) | (refine Keeps.put ?_ (by assumption) (by simp only [n_bump, n_put, n_touch, n_kill] at *; omega)))) hE5
  have hN5 := hE5.n
  replace hP2 := hP2.rd.lt hw5
  have hN5 := hE5.n
  simp only [Int.toNat_natCast] at hP2
  rw [List.take_of_length_le (by rw [List.length_drop]; omega)] at hP2
  have hbj : b.take j ++ b.drop j = b := List.take_append_drop j b
  repeat (first | (refine aw_seq ?_) | (refine aw_reg0 (by simp only [SZ, Nat.reduceAdd]; exact rfl) ?_) | (refine aw_reg (by decide +kernel) (by simp only [SZ, Nat.reduceAdd]; exact rfl) ?_) | (refine aw_regS (by decide +kernel) (by simp only [SZ, Nat.reduceAdd]; exact rfl) ?_) | (refine arl_nil ?_) | (refine aw_skip ?_) | (refine aw_block ?_) | (refine aw_exit ?_) | (refine aw_ret ?_) | (refine arl_cons rfl rfl (by simp +decide only [aop, abuiltin, aeval, aintBin, bin_int, aload_bump, SS, reduceIte, reduceCtorEq]; exact rfl) (by first | rfl | with_reducible assumption) rfl ?_) | (refine arl_none rfl rfl (by simp +decide only [aop, abuiltin, aeval, aintBin, bin_int, aload_bump, SS, reduceIte, reduceCtorEq]; exact rfl) rfl rfl ?_) | (refine arl_off rfl rfl ?_) | (refine aw_condT (by simp +decide only [aop, abuiltin, aeval, aintBin, bin_int, aload_bump, SS, reduceIte, reduceCtorEq]; first | done | exact rfl) ?_) | (refine aw_condF (by simp +decide only [aop, abuiltin, aeval, aintBin, bin_int, aload_bump, SS, reduceIte, reduceCtorEq]; first | done | exact rfl) ?_))
  refine arl_call rfl rfl rfl rfl rfl rfl ((fed_ok (by repeat (first | assumption | (refine WF.bump ?_ _))) ((hF4.up hE5).up (by repeat (first | exact Keeps.refl _ _ | (refine Keeps.bumpR ?_ _)))) hM.2 (hP2.up (by repeat (first | exact Keeps.refl _ _ | (refine Keeps.bumpR ?_ _)))) (fun g hg => ⟨fun h => by have := hKH4 g h; have := hg.1; simp only [n_bump] at this; omega, fun h => by have := hKB4 g h; have := hg.1; simp only [n_bump] at this; omega, by have := hg.1; simp only [n_bump] at this; omega⟩) (by rw [hbj]; exact hbb) (by simp only [List.length_take, List.length_drop]; omega)).wf (by repeat (first | assumption | (refine WF.bump ?_ _) | (refine WF.put ?_ (by simp only [n_bump, n_put, n_touch, n_kill] at *; omega) (by simp only [n_bump, n_put, n_touch, n_kill] at *; omega)))) |>.mono ?_)
  rintro res s6 ⟨hw6, hn6, hE6, xb, KX2, KH2, KB2, L2, fs2, rfl, hxbs, hX2, hG2, hfs2, -, hF6⟩
  refine ⟨rfl, ?_⟩
  rw [hbj] at hfs2 hF6 ⊢
  have happ := cutS_app (bndF most) (b.drop j) _ (b.take j) (Nat.le_refl _)
  rw [hbj, hcb] at happ
  rw [hcb, hfs] at hfs2
  simp only at hfs2
  have hee : (cutS (bndF most) (b.take j)).2.2 = 0 := by
    by_cases hz : (cutS (bndF most) (b.take j)).2.2 = 0
    · exact hz
    · rw [if_neg hz] at happ
      exact (congrArg (fun q => q.2.2) happ).symm
  rw [hcb]
  simp only [hee]
  replace hE6 : Keeps (fun g => g = p ∨ KH g ∨ KB g) s5 s6 := Keeps.trans (Keeps.mono (G := fun _ => False) (show Ext s5 _ from (by repeat (first | exact Keeps.refl _ _ | (refine Keeps.bumpR ?_ _)))) (fun _ h => h.elim)) hE6
  have hN6 := hE6.n
  try simp only [n_bump] at hn6 hG2
  have hE46 : Keeps (fun g => g = p ∨ KH g ∨ KB g) s4 s6 := Keeps.trans (Keeps.mono (G := fun _ => False) hE5 (fun _ h => h.elim)) hE6
  have hX6 := hX.keep hE46 (fun g hg h => by have := hG.x g hg; have := hG.xh g hg; rcases h with h | h | h; omega; exact this.1 h; exact this.2 h) (fun i g hg h => by have := hG.lh i g hg; rcases h with h | h | h; (rcases hG.l i g hg with q | q; exact q.elim; omega); exact this.1 h; exact this.2 h)
  have hK6 := hK4.keep hE46 (fun g hg h => by rcases h with h | h | h; omega; have := hgH g h; omega; have := hgB g h; omega) (fun _ g hg h => by rcases h with h | h | h; omega; have := hKH4 g h; omega; have := hKB4 g h; omega)
  have hlx1 : ∀ i g, L i g → g < s4.n := fun i g hg => by rcases hG.l i g hg with h | h; exact h.elim; omega
  have hlx2 : ∀ i g, L2 i g → g < s6.n := fun i g hg => by rcases hG2.l i g hg with h | h; have := hKB4 g h; omega; omega
  have hfl : fs.length + fs2.length ≤ 1048576 := by
    have := congrArg List.length hfs2
    rw [List.length_append] at this
    omega
  repeat (first | (refine aw_seq ?_) | (refine aw_reg0 (by simp only [SZ, Nat.reduceAdd]; exact rfl) ?_) | (refine aw_reg (by decide +kernel) (by simp only [SZ, Nat.reduceAdd]; exact rfl) ?_) | (refine aw_regS (by decide +kernel) (by simp only [SZ, Nat.reduceAdd]; exact rfl) ?_) | (refine arl_nil ?_) | (refine aw_skip ?_) | (refine aw_block ?_) | (refine aw_exit ?_) | (refine aw_ret ?_) | (refine arl_cons rfl rfl (by simp +decide only [aop, abuiltin, aeval, aintBin, bin_int, aload_bump, SS, reduceIte, reduceCtorEq, litF0]; exact rfl) (by first | rfl | with_reducible assumption) rfl ?_) | (refine arl_none rfl rfl (by simp +decide only [aop, abuiltin, aeval, aintBin, bin_int, aload_bump, SS, reduceIte, reduceCtorEq, litF0]; exact rfl) rfl rfl ?_) | (refine arl_off rfl rfl ?_) | (refine aw_condT (by simp +decide only [aop, abuiltin, aeval, aintBin, bin_int, aload_bump, SS, reduceIte, reduceCtorEq, litF0]; first | done | exact rfl) ?_) | (refine aw_condF (by simp +decide only [aop, abuiltin, aeval, aintBin, bin_int, aload_bump, SS, reduceIte, reduceCtorEq, litF0]; first | done | exact rfl) ?_))
  refine arl_appZ (k := oRowK) (a := 93) (c := 94) (K0 := fun g => g = s6.n) (L0 := fun _ _ => False) (K := fun g => g = s6.n) (xs := []) (ns := fs) TRo rfl rfl rfl (OwX.new _ (get_put _ _) rfl) (hX6.up (by repeat (first | assumption | exact Keeps.refl _ _ | (refine Keeps.bumpR ?_ _) | (refine Keeps.put ?_ (by assumption) (by simp only [n_bump, n_put, n_touch, n_kill] at *; omega))))) (fun i g hg h => by have := hlx1 i g h; omega) ⟨fun i h => by have := hlx1 i _ h; simp only [n_bump, n_put] at this; omega, fun h => by cases h⟩ (fun _ h => h) ?hfr (by simp; omega) (by simp; omega) ?_
  case hfr => exact (get_put_ne _ (by simp only [n_bump, n_put]; omega)).trans (fresh hw6 (by simp only [n_bump, n_put]; omega))
  intro y s7 hO7 hn7 hE7 hwf7 hy7
  have hw7 : WF s7 := hwf7 (by repeat (first | assumption | (refine WF.bump ?_ _) | (refine WF.put ?_ (by simp only [n_bump, n_put, n_touch, n_kill] at *; omega) (by simp only [n_bump, n_put, n_touch, n_kill] at *; omega)))) (by first | omega | (simp only [n_bump, n_put]; omega) | (simp only [n_bump, n_put] at *; omega))
  replace hE7 : Keeps (fun g => g = s6.n) s6 s7 := Keeps.trans (Keeps.mono (G := fun _ => False) (show Ext s6 _ from (by repeat (first | assumption | exact Keeps.refl _ _ | (refine Keeps.bumpR ?_ _) | (refine Keeps.put ?_ (by assumption) (by simp only [n_bump, n_put, n_touch, n_kill] at *; omega))))) (fun _ h => h.elim)) hE7
  have hN7 := hE7.n
  have hyn : y ≠ .pl (.slice none 0 0) := hy7 (by intro h; cases h)
  have hys := hO7.solid
  have hX7 := hX2.keep hE7 (fun g hg h => by have := hG2.x g hg; omega) (fun i g hg h => by have := hlx2 i g hg; omega)
  have hF7 := hF6.keep hE7 (fun h => by omega) (fun g hg h => by have := hF6.2.2.1 g hg; omega) (fun g hg h => by have := hF6.2.2.2.1 g hg; omega)
  have hK7 := hK6.keep hE7 (fun g hg h => by omega) (fun _ g hg h => by omega)
  rw [List.nil_append] at hO7
  repeat (first | (refine aw_seq ?_) | (refine aw_reg0 (by simp only [SZ, Nat.reduceAdd]; exact rfl) ?_) | (refine aw_reg (by decide +kernel) (by simp only [SZ, Nat.reduceAdd]; exact rfl) ?_) | (refine aw_regS (by decide +kernel) (by simp only [SZ, Nat.reduceAdd]; exact rfl) ?_) | (refine arl_nil ?_) | (refine aw_skip ?_) | (refine aw_block ?_) | (refine aw_exit ?_) | (refine aw_ret ?_) | (refine arl_cons rfl rfl (by simp +decide only [aop, abuiltin, aeval, aintBin, bin_int, aload_bump, SS, reduceIte, reduceCtorEq]; exact rfl) (by first | rfl | with_reducible assumption) rfl ?_) | (refine arl_none rfl rfl (by simp +decide only [aop, abuiltin, aeval, aintBin, bin_int, aload_bump, SS, reduceIte, reduceCtorEq]; exact rfl) rfl rfl ?_) | (refine arl_off rfl rfl ?_) | (refine aw_condT (by simp +decide only [aop, abuiltin, aeval, aintBin, bin_int, aload_bump, SS, reduceIte, reduceCtorEq]; first | done | exact rfl) ?_) | (refine aw_condF (by simp +decide only [aop, abuiltin, aeval, aintBin, bin_int, aload_bump, SS, reduceIte, reduceCtorEq]; first | done | exact rfl) ?_))
  refine arl_appZ (k := oRowK) (a := 96) (c := 97) (K0 := fun g => g = s6.n) (K := fun g => g = s6.n) (xs := fs) (ns := fs2) TRo rfl rfl rfl (hO7.up (by repeat (first | exact Keeps.refl _ _ | (refine Keeps.bumpR ?_ _)))) (hX7.up (by repeat (first | exact Keeps.refl _ _ | (refine Keeps.bumpR ?_ _)))) (fun i g hg h => by have := hlx2 i g h; omega) ⟨fun i h => by have := hlx2 i _ h; first | omega | (simp only [n_bump, n_put] at *; omega), fun h => absurd h hyn⟩ (fun _ h => h) (fresh hw7 (by first | omega | (simp only [n_bump, n_put]; omega) | (simp only [n_bump, n_put] at *; omega))) (by omega) (by omega) ?_
  intro z s8 hO8 hn8 hE8 hwf8 hz8
  have hw8 : WF s8 := hwf8 (by repeat (first | assumption | (refine WF.bump ?_ _))) (by first | omega | (simp only [n_bump, n_put]; omega) | (simp only [n_bump, n_put] at *; omega))
  replace hE8 : Keeps (fun g => g = s6.n) s7 s8 := Keeps.trans (Keeps.mono (G := fun _ => False) (show Ext s7 _ from (by repeat (first | exact Keeps.refl _ _ | (refine Keeps.bumpR ?_ _)))) (fun _ h => h.elim)) hE8
  rw [← hfs2] at hO8
  have hzs := hO8.solid
  have hF8 := hF7.keep hE8 (fun h => by omega) (fun g hg h => by have := hF6.2.2.1 g hg; omega) (fun g hg h => by have := hF6.2.2.2.1 g hg; omega)
  have hK8 := hK7.keep hE8 (fun g hg h => by omega) (fun _ g hg h => by omega)
  have hlk := RdE.len hK8.rd TRr
  have hst : stOf b (l, [], 0) = stT l.length b.length 0 0 := by unfold stOf; simp
  repeat (first | (refine aw_seq ?_) | (refine aw_reg0 (by simp only [SZ, Nat.reduceAdd]; exact rfl) ?_) | (refine aw_reg (by decide +kernel) (by simp only [SZ, Nat.reduceAdd]; exact rfl) ?_) | (refine aw_regS (by decide +kernel) (by simp only [SZ, Nat.reduceAdd]; exact rfl) ?_) | (refine arl_nil ?_) | (refine aw_skip ?_) | (refine aw_block ?_) | (refine aw_exit ?_) | (refine aw_ret ?_) | (refine arl_cons rfl rfl (by simp +decide only [aop, abuiltin, aeval, aintBin, bin_int, aload_bump, SS, reduceIte, reduceCtorEq, f9]; exact rfl) (by first | rfl | with_reducible assumption) rfl ?_) | (refine arl_none rfl rfl (by simp +decide only [aop, abuiltin, aeval, aintBin, bin_int, aload_bump, SS, reduceIte, reduceCtorEq, f9]; exact rfl) rfl rfl ?_) | (refine arl_off rfl rfl ?_) | (refine aw_condT (by simp +decide only [aop, abuiltin, aeval, aintBin, bin_int, aload_bump, SS, reduceIte, reduceCtorEq, f9]; first | done | exact rfl) ?_) | (refine aw_condF (by simp +decide only [aop, abuiltin, aeval, aintBin, bin_int, aload_bump, SS, reduceIte, reduceCtorEq, f9]; first | done | exact rfl) ?_))
  refine arl_call rfl rfl rfl rfl rfl rfl ((ralike_ok (by repeat (first | assumption | (refine WF.bump ?_ _))) ((oRow_rd hO8).rd.up (by repeat (first | exact Keeps.refl _ _ | (refine Keeps.bumpR ?_ _)))) (hK8.rd.up (by repeat (first | exact Keeps.refl _ _ | (refine Keeps.bumpR ?_ _)))) (by omega) hllen).wf (by repeat (first | assumption | (refine WF.bump ?_ _) | (refine WF.put ?_ (by simp only [n_bump, n_put, n_touch, n_kill] at *; omega) (by simp only [n_bump, n_put, n_touch, n_kill] at *; omega)))) |>.mono ?_)
  rintro r s9 ⟨hw9, hn9, hE9, rfl⟩
  refine ⟨by first | rfl | with_reducible assumption, ?_⟩
  replace hE9 : Ext s8 s9 := Keeps.trans (by repeat (first | assumption | exact Keeps.refl _ _ | (refine Keeps.bumpR ?_ _) | (refine Keeps.put ?_ (by assumption) (by simp only [n_bump, n_put, n_touch, n_kill] at *; omega)))) hE9
  have hN9 := hE9.n
  repeat (first | (refine aw_seq ?_) | (refine aw_reg0 (by simp only [SZ, Nat.reduceAdd]; exact rfl) ?_) | (refine aw_reg (by decide +kernel) (by simp only [SZ, Nat.reduceAdd]; exact rfl) ?_) | (refine aw_regS (by decide +kernel) (by simp only [SZ, Nat.reduceAdd]; exact rfl) ?_) | (refine arl_nil ?_) | (refine aw_skip ?_) | (refine aw_block ?_) | (refine aw_exit ?_) | (refine aw_ret ?_) | (refine arl_cons rfl rfl (by simp +decide only [aop, abuiltin, aeval, aintBin, bin_int, aload_bump, SS, reduceIte, reduceCtorEq, f7]; exact rfl) (by first | rfl | with_reducible assumption) rfl ?_) | (refine arl_none rfl rfl (by simp +decide only [aop, abuiltin, aeval, aintBin, bin_int, aload_bump, SS, reduceIte, reduceCtorEq, f7]; exact rfl) rfl rfl ?_) | (refine arl_off rfl rfl ?_) | (refine aw_condT (by simp +decide only [aop, abuiltin, aeval, aintBin, bin_int, aload_bump, SS, reduceIte, reduceCtorEq, f7]; first | done | exact rfl) ?_) | (refine aw_condF (by simp +decide only [aop, abuiltin, aeval, aintBin, bin_int, aload_bump, SS, reduceIte, reduceCtorEq, f7]; first | done | exact rfl) ?_))
  refine arl_call rfl rfl rfl rfl rfl rfl ((fstate_ok (by repeat (first | assumption | (refine WF.bump ?_ _))) ((hF8.up hE9).up (by repeat (first | exact Keeps.refl _ _ | (refine Keeps.bumpR ?_ _)))) (by omega)).wf (by repeat (first | assumption | (refine WF.bump ?_ _) | (refine WF.put ?_ (by simp only [n_bump, n_put, n_touch, n_kill] at *; omega) (by simp only [n_bump, n_put, n_touch, n_kill] at *; omega)))) |>.mono ?_)
  rintro r s10 ⟨hw10, hn10, hE10, rfl⟩
  refine ⟨by first | rfl | with_reducible assumption, ?_⟩
  replace hE10 : Ext s9 s10 := Keeps.trans (by repeat (first | assumption | exact Keeps.refl _ _ | (refine Keeps.bumpR ?_ _) | (refine Keeps.put ?_ (by assumption) (by simp only [n_bump, n_put, n_touch, n_kill] at *; omega)))) hE10
  have hN10 := hE10.n
  rw [hcb, hst]
  have hse := stEq l.length b.length 0 0
  repeat (first | (refine aw_seq ?_) | (refine aw_reg0 (by simp only [SZ, Nat.reduceAdd]; exact rfl) ?_) | (refine aw_reg (by decide +kernel) (by simp only [SZ, Nat.reduceAdd]; exact rfl) ?_) | (refine aw_regS (by decide +kernel) (by simp only [SZ, Nat.reduceAdd]; exact rfl) ?_) | (refine arl_nil ?_) | (refine aw_skip ?_) | (refine aw_block ?_) | (refine aw_exit ?_) | (refine aw_ret ?_) | (refine arl_cons rfl rfl (by simp +decide only [aop, abuiltin, aeval, aintBin, bin_int, aload_bump, SS, reduceIte, reduceCtorEq, f9, hlk, f8, hlb, bldS2, hse]; exact rfl) (by first | rfl | with_reducible assumption) rfl ?_) | (refine arl_none rfl rfl (by simp +decide only [aop, abuiltin, aeval, aintBin, bin_int, aload_bump, SS, reduceIte, reduceCtorEq, f9, hlk, f8, hlb, bldS2, hse]; exact rfl) rfl rfl ?_) | (refine arl_off rfl rfl ?_) | (refine aw_condT (by simp +decide only [aop, abuiltin, aeval, aintBin, bin_int, aload_bump, SS, reduceIte, reduceCtorEq, f9, hlk, f8, hlb, bldS2, hse]; first | done | exact rfl) ?_) | (refine aw_condF (by simp +decide only [aop, abuiltin, aeval, aintBin, bin_int, aload_bump, SS, reduceIte, reduceCtorEq, f9, hlk, f8, hlb, bldS2, hse]; first | done | exact rfl) ?_))
  exact ⟨.inr rfl, _, rfl, rfl⟩
theorem FrameBack_small {st : St} (hw : WF st) (most : Int) (gm : (Lit.int .i64 most).wf = true) {v : AV} {ps : List (List Int)} (h : RdL st (fun _ => True) 1 (fun cs xs => ∃ v, cs = [v] ∧ RdL st (fun _ => True) 1 (fun cs n => cs = [.pl (.int .u8 n)]) v xs) v ps)
    (good : ∀ x ∈ ps, ∀ y ∈ x, (Lit.int .u8 y).wf = true) (ct : Int) (gc : (Lit.int .i64 ct).wf = true) (hb : 1 + ((ps.map fun xs : List Int => (xs.map fun _ => 1).sum + 1).sum + 1 + 1) ≤ 1048576) : ACalls Try.prog 5 [i64 most, v, i64 ct] st (fun r s => r = .pl (.bool true)) := by
  rw [sum_flat] at hb
  exact back_ok hw most ct (rows_of h) (by omega) (fun p hp x hx => wfu8 (good p hp x hx))
end Go.Proofs.Ytoccmjhgmoandaa.Ra
