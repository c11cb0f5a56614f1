/- leattop.WholeBlocks: packed blocks. -/
import Derived.Test.YthjfncppiffnmaaDoorWk
import Derived.Test.YthjfncppiffnmaaDoorZc
import Derived.Test.YthjfncppiffnmaaDoorTh
namespace Go.Proofs.YthjfncppiffnmaaDoor.Ra
open Go Go.RowKit Pn Vn
set_option linter.unusedVariables false
set_option linter.unusedSimpArgs false
set_option maxRecDepth 10000
def a6 : List Int := [97, 97, 97, 97, 97, 97]
theorem lit6 (id : Nat) : abuildSlice Tryd.prog 22 id 6 [(0, u8 97), (1, u8 97), (2, u8 97), (3, u8 97), (4, u8 97), (5, u8 97)] = some (.sl id 0 a6.length 1, ⟨a6.map u8, 5, true, id⟩) := lits id a6 (by decide)
theorem gtok6 : (encs (gtok a6 8)).length = 5 := by decide +kernel
theorem pack6 : (pack a6).1 = 0 ∧ (pack a6).2.length = 6 := by
  have h : vput ((a6.length : Nat) : Int) = [12] := by
    show dig 12 = [12]
    rw [dig_small (by decide)]
    rfl
  unfold pack
  rw [if_neg (by decide), h]
  exact ⟨rfl, by simp only [List.length_append, gtok6]; rfl⟩
theorem pcs_run (b : List Int) (hl : b.length ≤ 32768) : run b.length (pcs b) [] = (0, b) := by
  obtain ⟨p, hp⟩ := lo_pcs b 8 b.length b (Nat.le_refl _) [] 0 none .nil (.inl rfl) (by omega) (by simp)
  rw [List.nil_append, Nat.zero_add] at hp
  have := lo_run b 8 b.length hp (by rw [bnd_in (by omega) (by omega)]; exact Int.le_refl _)
  rw [List.take_length] at this
  exact this
theorem pcs_bytes (b : List Int) (hby : byts b) : ∀ t ∈ pcs b, ∀ x ∈ t.1, 0 ≤ x ∧ x < 256 := by
  obtain ⟨p, hp⟩ := lo_pcs b 8 b.length b (Nat.le_refl _) [] 0 none .nil (.inl rfl) (by omega) (by simp)
  rw [List.nil_append] at hp
  exact fun t ht x hx => byte_lt hby x (lo_bytes hp t ht x hx)
theorem pcs_back (b : List Int) (hl : b.length ≤ 32768) (hby : byts b) : unpack (vput b.length ++ encs (pcs b)) b.length = (0, b) := by
  have h := expd_encs b.length [] (by simp) (pcs b) [] (pcs_fine b) (pcs_bytes b hby) (by rw [pcs_run b hl])
  rw [List.append_nil, pcs_run b hl] at h
  have h2 : expd b.length (encs (pcs b)).length (encs (pcs b)) [] = (0, b) := h
  rw [unpack_of hl, h2, if_neg (by omega), if_neg (by simp), if_neg (by simp)]
theorem encs_byts {ts : List Tok} (h : ∀ t ∈ ts, ill t = false) (hby : ∀ t ∈ ts, ∀ x ∈ t.1, 0 ≤ x ∧ x < 256) : byts (encs ts) := by
  intro x hx
  obtain ⟨l, hl, hx⟩ := List.mem_flatten.1 hx
  obtain ⟨t, ht, rfl⟩ := List.mem_map.1 hl
  have := enc_by (t := t) (by rw [h t ht]; simp) (hby t ht) x hx
  omega
theorem pars_gtok (b : List Int) (hby : byts b) : pars (encs (gtok b 8)).length (encs (gtok b 8)) [] = (0, gtok b 8) := by
  have := pars_enc (gtok b 8) [] (fun t ht => by rw [gtok_fine b 8 t ht]; simp) (gtok_bytes b hby)
  rw [List.nil_append] at this
  exact this
theorem tok_lens {ts : List Tok} (h : ∀ t ∈ ts, ill t = false) : ∀ t ∈ ts, t.1.length ≤ 1048576 := fun t ht => by
  have := h t ht
  unfold ill at this
  split at this
  · have := of_decide_eq_false this; omega
  · have := of_decide_eq_false this; omega
theorem pcs_ln (b : List Int) : (pcs b).length ≤ b.length + b.length / 128 + 1 := Nat.le_trans (encs_len _) (pcs_size b.length b (Nat.le_refl _))
theorem litR1 {st : St} {K : Nat → Prop} {x : AV} {ys : List Int} (hl : RdB st K x ys) (id : Nat) : abuildSlice Tryd.prog 56 id 1 [(0, x)] = some (.sl id 0 1 1, ⟨[x], 22, true, id⟩) := lits_one TR id [x] (by simp [hl.solid, hl.cell.1]) (by simp)
set_option maxHeartbeats 8000000 in
theorem blocks_ok {st : St} (hw : WF st) (hT : TabA st) {v : AV} {b : List Int} (at_ mask : Int) (hb : RdB st (fun _ => True) v b) (hbl : b.length ≤ 1048576) (hby : byts b) (hmk : 0 ≤ mask ∧ mask ≤ 255) (hat : -9223372036854775808 ≤ at_ ∧ at_ ≤ 9223372036854775807) :
    ACalls Tryd.prog 3 [v, i64 at_, u8 mask] st (fun r s => r = .pl (.bool true)) := by
  have h0n : 0 < st.n := by obtain ⟨o, h1, -⟩ := hT; exact (hw 0 _ h1).1
  replace hb := hb.lt hw
  have hvs := hb.solid
  have hln := hb.len
  refine acalls_of Tryd.func3 rfl (by kernel_rfl) (by simp [hvs]; exact ⟨rfl, rfl⟩) ?_
  repeat (first | (refine aw_seq ?_) | (refine aw_reg0 (by simp only [SZ, Nat.reduceAdd]; exact rfl) ?_) | (refine aw_reg (by decide +kernel) (by simp only [SZ, Nat.reduceAdd]; exact rfl) ?_) | (refine aw_regS (by decide +kernel) (by simp only [SZ, Nat.reduceAdd]; exact rfl) ?_) | (refine arl_nil ?_) | (refine aw_skip ?_) | (refine aw_block ?_) | (refine aw_exit ?_) | (refine aw_ret ?_) | (refine arl_cons rfl rfl (by simp +decide only [aop, abuiltin, aeval, aintBin, bin_int, aload_bump, SS, reduceIte, reduceCtorEq, lit6, mark_lit]; exact rfl) (by first | rfl | with_reducible assumption) rfl ?_) | (refine arl_none rfl rfl (by simp +decide only [aop, abuiltin, aeval, aintBin, bin_int, aload_bump, SS, reduceIte, reduceCtorEq, lit6, mark_lit]; exact rfl) rfl rfl ?_) | (refine arl_off rfl rfl ?_) | (refine aw_condT (by simp +decide only [aop, abuiltin, aeval, aintBin, bin_int, aload_bump, SS, reduceIte, reduceCtorEq, lit6, mark_lit]; first | done | exact rfl) ?_) | (refine aw_condF (by simp +decide only [aop, abuiltin, aeval, aintBin, bin_int, aload_bump, SS, reduceIte, reduceCtorEq, lit6, mark_lit]; first | done | exact rfl) ?_))
  refine arl_hide ?_
  intro s0 hs0
  obtain ⟨hE0, hw0, hn0, hR0⟩ : Ext st s0 ∧ WF s0 ∧ s0.n = st.n + 9 ∧ RdB s0 (fun h => h = st.n + 2) (.sl (st.n + 2) 0 a6.length 0) a6 := by
    subst hs0
    refine ⟨(((show Ext st _ from (by repeat (first | exact Keeps.refl _ _ | (refine Keeps.bumpR ?_ _)))).put hw (by simp only [n_bump, n_put, n_touch, n_kill] at *; omega)).kill hw (.inr (by simp only [n_bump, n_put, n_touch, n_kill] at *; omega))).put hw (by simp only [n_bump, n_put, n_touch, n_kill] at *; omega), WF.put (WF.kill (WF.put (by repeat (first | assumption | (refine WF.bump ?_ _))) (by simp only [n_bump, n_put, n_touch, n_kill] at *; omega) (by simp only [n_bump, n_put, n_touch, n_kill] at *; omega)) _) (by simp only [n_bump, n_put, n_touch, n_kill] at *; omega) (by simp only [n_bump, n_put, n_touch, n_kill] at *; omega), by simp only [n_bump, n_put, n_kill], RdB.marked _ _ _ _⟩
  clear hs0
  refine arl_call rfl rfl rfl rfl rfl rfl ((pack_ok (by repeat (first | assumption | (refine WF.bump ?_ _))) hR0 (by decide)).wf (by repeat (first | assumption | (refine WF.bump ?_ _) | (refine WF.put ?_ (by simp only [n_bump, n_put, n_touch, n_kill] at *; omega) (by simp only [n_bump, n_put, n_touch, n_kill] at *; omega)))) |>.mono ?_)
  rintro r s1 ⟨hw1, hn1, hE1, x, rfl, hxs, hX⟩
  refine ⟨rfl, ?_⟩
  replace hE1 : Ext st s1 := hE0.trans hE1
  have hlx := hX.rd.len
  rw [pack6.2] at hlx
  rw [pack6.1]
  replace hlx : alen Tryd.prog #[22] [x] = some (i64 6) := hlx
  repeat (first | (refine aw_seq ?_) | (refine aw_reg0 (by simp only [SZ, Nat.reduceAdd]; exact rfl) ?_) | (refine aw_reg (by decide +kernel) (by simp only [SZ, Nat.reduceAdd]; exact rfl) ?_) | (refine aw_regS (by decide +kernel) (by simp only [SZ, Nat.reduceAdd]; exact rfl) ?_) | (refine arl_nil ?_) | (refine aw_skip ?_) | (refine aw_block ?_) | (refine aw_exit ?_) | (refine aw_ret ?_) | (refine arl_cons rfl rfl (by simp +decide only [aop, abuiltin, aeval, aintBin, bin_int, aload_bump, SS, reduceIte, reduceCtorEq, hlx]; exact rfl) (by first | rfl | with_reducible assumption) rfl ?_) | (refine arl_none rfl rfl (by simp +decide only [aop, abuiltin, aeval, aintBin, bin_int, aload_bump, SS, reduceIte, reduceCtorEq, hlx]; exact rfl) rfl rfl ?_) | (refine arl_off rfl rfl ?_) | (refine aw_condT (by simp +decide only [aop, abuiltin, aeval, aintBin, bin_int, aload_bump, SS, reduceIte, reduceCtorEq, hlx]; first | done | exact rfl) ?_) | (refine aw_condF (by simp +decide only [aop, abuiltin, aeval, aintBin, bin_int, aload_bump, SS, reduceIte, reduceCtorEq, hlx]; first | done | exact rfl) ?_))
  refine arl_call rfl rfl rfl rfl rfl rfl ((pack_ok (by repeat (first | assumption | (refine WF.bump ?_ _))) ((hb.up hE1).up (by repeat (first | exact Keeps.refl _ _ | (refine Keeps.bumpR ?_ _)))) hbl).wf (by repeat (first | assumption | (refine WF.bump ?_ _) | (refine WF.put ?_ (by simp only [n_bump, n_put, n_touch, n_kill] at *; omega) (by simp only [n_bump, n_put, n_touch, n_kill] at *; omega)))) |>.mono ?_)
  rintro r s2 ⟨hw2, hn2, hE2, pv, rfl, hpvs, hP⟩
  refine ⟨by first | rfl | with_reducible assumption, ?_⟩
  replace hE2 : Ext s1 s2 := Keeps.trans (by repeat (first | assumption | exact Keeps.refl _ _ | (refine Keeps.bumpR ?_ _) | (refine Keeps.put ?_ (by assumption) (by simp only [n_bump, n_put, n_touch, n_kill] at *; omega)))) hE2
  have hN2 := hE2.n
  replace hP := hP.lt hw2
  have hT2 := hE1.trans hE2
  by_cases hbig : 32768 < b.length
  · have d1 : decide (32768 < (b.length : Int)) = true := decide_eq_true (by omega)
    have e : pack b = (4, []) := by unfold pack; rw [if_pos hbig]
    rw [e] at hP ⊢
    have hlp := hP.rd.len
    repeat (first | (refine aw_seq ?_) | (refine aw_reg0 (by simp only [SZ, Nat.reduceAdd]; exact rfl) ?_) | (refine aw_reg (by decide +kernel) (by simp only [SZ, Nat.reduceAdd]; exact rfl) ?_) | (refine aw_regS (by decide +kernel) (by simp only [SZ, Nat.reduceAdd]; exact rfl) ?_) | (refine arl_nil ?_) | (refine aw_skip ?_) | (refine aw_block ?_) | (refine aw_exit ?_) | (refine aw_ret ?_) | (refine arl_cons rfl rfl (by simp +decide only [aop, abuiltin, aeval, aintBin, bin_int, aload_bump, SS, reduceIte, reduceCtorEq, hln, d1, hlp]; exact rfl) (by first | rfl | with_reducible assumption) rfl ?_) | (refine arl_none rfl rfl (by simp +decide only [aop, abuiltin, aeval, aintBin, bin_int, aload_bump, SS, reduceIte, reduceCtorEq, hln, d1, hlp]; exact rfl) rfl rfl ?_) | (refine arl_off rfl rfl ?_) | (refine aw_condT (by simp +decide only [aop, abuiltin, aeval, aintBin, bin_int, aload_bump, SS, reduceIte, reduceCtorEq, hln, d1, hlp]; first | done | exact rfl) ?_) | (refine aw_condF (by simp +decide only [aop, abuiltin, aeval, aintBin, bin_int, aload_bump, SS, reduceIte, reduceCtorEq, hln, d1, hlp]; first | done | exact rfl) ?_))
    exact ⟨.inr rfl, _, rfl, rfl⟩
  have hbs : b.length ≤ 32768 := by omega
  have d1 : decide (32768 < (b.length : Int)) = false := decide_eq_false (by omega)
  have hpk : pack b = (0, vput b.length ++ encs (gtok b 8)) := by unfold pack; rw [if_neg hbig]
  have hPby := pack_bytes b hbs hby
  have hPln := pack_len b
  have hPun := unp_full b hbs hby b.length
  rw [if_pos (.inl (Int.le_refl _))] at hPun
  rw [hpk] at hP hPby hPln hPun ⊢
  simp only at hP hPby hPln hPun ⊢
  have hgv := getS_vput hbs (encs (gtok b 8))
  have hvl := vput_nat_len hbs
  obtain ⟨E, hE⟩ : ∃ E, encs (gtok b 8) = E := ⟨_, rfl⟩
  have hpe := pars_gtok b hby
  rw [hE] at hP hPby hPln hPun hgv hpe
  obtain ⟨H, hH⟩ : ∃ H, vput (b.length : Int) = H := ⟨_, rfl⟩
  rw [hH] at hP hPby hPln hPun hgv hvl
  have hlp := hP.rd.len
  have hnn : ((b.length : Int) != (b.length : Int)) = false := by simp
  repeat (first | (refine aw_seq ?_) | (refine aw_reg0 (by simp only [SZ, Nat.reduceAdd]; exact rfl) ?_) | (refine aw_reg (by decide +kernel) (by simp only [SZ, Nat.reduceAdd]; exact rfl) ?_) | (refine aw_regS (by decide +kernel) (by simp only [SZ, Nat.reduceAdd]; exact rfl) ?_) | (refine arl_nil ?_) | (refine aw_skip ?_) | (refine aw_block ?_) | (refine aw_exit ?_) | (refine aw_ret ?_) | (refine arl_cons rfl rfl (by simp +decide only [aop, abuiltin, aeval, aintBin, bin_int, aload_bump, SS, reduceIte, reduceCtorEq, hln, d1]; exact rfl) (by first | rfl | with_reducible assumption) rfl ?_) | (refine arl_none rfl rfl (by simp +decide only [aop, abuiltin, aeval, aintBin, bin_int, aload_bump, SS, reduceIte, reduceCtorEq, hln, d1]; exact rfl) rfl rfl ?_) | (refine arl_off rfl rfl ?_) | (refine aw_condT (by simp +decide only [aop, abuiltin, aeval, aintBin, bin_int, aload_bump, SS, reduceIte, reduceCtorEq, hln, d1]; first | done | exact rfl) ?_) | (refine aw_condF (by simp +decide only [aop, abuiltin, aeval, aintBin, bin_int, aload_bump, SS, reduceIte, reduceCtorEq, hln, d1]; first | done | exact rfl) ?_))
  refine arl_call rfl rfl rfl rfl rfl rfl ((vGet_ok (by repeat (first | assumption | (refine WF.bump ?_ _))) 0 (hP.rd.up (by repeat (first | exact Keeps.refl _ _ | (refine Keeps.bumpR ?_ _)))) (by omega) hPby).wf (by repeat (first | assumption | (refine WF.bump ?_ _) | (refine WF.put ?_ (by simp only [n_bump, n_put, n_touch, n_kill] at *; omega) (by simp only [n_bump, n_put, n_touch, n_kill] at *; omega)))) |>.mono ?_)
  rintro r s3 ⟨hw3, hn3, hE3, rfl⟩
  refine ⟨by first | rfl | with_reducible assumption, ?_⟩
  replace hE3 : Ext s2 s3 := Keeps.trans (by repeat (first | assumption | exact Keeps.refl _ _ | (refine Keeps.bumpR ?_ _) | (refine Keeps.put ?_ (by assumption) (by simp only [n_bump, n_put, n_touch, n_kill] at *; omega)))) hE3
  have hN3 := hE3.n
  have hgv2 : getV (H ++ E) 0 = .tup [i64 b.length, i64 H.length, i64 0] := by
    unfold getV
    rw [hgv, zag_zig]
  rw [hgv2]
  have hT3 := hT2.trans hE3
  have hpce : ((H ++ E).drop (H.length : Int).toNat).take (((H ++ E).length : Int).toNat - (H.length : Int).toNat) = E := by
    rw [Int.toNat_natCast, Int.toNat_natCast, List.drop_left, List.take_of_length_le (by rw [List.length_append]; omega)]
  have hEby : byts E := fun y hy => hPby y (List.mem_append_right _ hy)
  have hEl : E.length ≤ 1048576 := by rw [List.length_append] at hPln; omega
  repeat (first | (refine aw_seq ?_) | (refine aw_reg0 (by simp only [SZ, Nat.reduceAdd]; exact rfl) ?_) | (refine aw_reg (by decide +kernel) (by simp only [SZ, Nat.reduceAdd]; exact rfl) ?_) | (refine aw_regS (by decide +kernel) (by simp only [SZ, Nat.reduceAdd]; exact rfl) ?_) | (refine arl_nil ?_) | (refine aw_skip ?_) | (refine aw_block ?_) | (refine aw_exit ?_) | (refine aw_ret ?_) | (refine arl_cons rfl rfl (by simp +decide only [aop, abuiltin, aeval, aintBin, bin_int, aload_bump, SS, reduceIte, reduceCtorEq, hln, hnn, hlp]; exact rfl) (by first | rfl | with_reducible assumption) rfl ?_) | (refine arl_none rfl rfl (by simp +decide only [aop, abuiltin, aeval, aintBin, bin_int, aload_bump, SS, reduceIte, reduceCtorEq, hln, hnn, hlp]; exact rfl) rfl rfl ?_) | (refine arl_off rfl rfl ?_) | (refine aw_condT (by simp +decide only [aop, abuiltin, aeval, aintBin, bin_int, aload_bump, SS, reduceIte, reduceCtorEq, hln, hnn, hlp]; first | done | exact rfl) ?_) | (refine aw_condF (by simp +decide only [aop, abuiltin, aeval, aintBin, bin_int, aload_bump, SS, reduceIte, reduceCtorEq, hln, hnn, hlp]; first | done | exact rfl) ?_))
  refine arl_call rfl rfl rfl rfl rfl rfl ((pieceP_ok (by repeat (first | assumption | (refine WF.bump ?_ _))) ((hP.rd.up hE3).up (by repeat (first | exact Keeps.refl _ _ | (refine Keeps.bumpR ?_ _)))) H.length (H ++ E).length (by omega) (by omega)).wf (by repeat (first | assumption | (refine WF.bump ?_ _) | (refine WF.put ?_ (by simp only [n_bump, n_put, n_touch, n_kill] at *; omega) (by simp only [n_bump, n_put, n_touch, n_kill] at *; omega)))) |>.mono ?_)
  rintro ev s4 ⟨hw4, hn4, hE4, hevs, hEv⟩
  refine ⟨by first | rfl | with_reducible assumption, ?_⟩
  replace hE4 : Ext s3 s4 := Keeps.trans (by repeat (first | assumption | exact Keeps.refl _ _ | (refine Keeps.bumpR ?_ _) | (refine Keeps.put ?_ (by assumption) (by simp only [n_bump, n_put, n_touch, n_kill] at *; omega)))) hE4
  have hN4 := hE4.n
  rw [hpce] at hEv
  repeat (first | (refine aw_seq ?_) | (refine aw_reg0 (by simp only [SZ, Nat.reduceAdd]; exact rfl) ?_) | (refine aw_reg (by decide +kernel) (by simp only [SZ, Nat.reduceAdd]; exact rfl) ?_) | (refine aw_regS (by decide +kernel) (by simp only [SZ, Nat.reduceAdd]; exact rfl) ?_) | (refine arl_nil ?_) | (refine aw_skip ?_) | (refine aw_block ?_) | (refine aw_exit ?_) | (refine aw_ret ?_) | (refine arl_cons rfl rfl (by simp +decide only [aop, abuiltin, aeval, aintBin, bin_int, aload_bump, SS, reduceIte, reduceCtorEq]; exact rfl) (by first | rfl | with_reducible assumption) rfl ?_) | (refine arl_none rfl rfl (by simp +decide only [aop, abuiltin, aeval, aintBin, bin_int, aload_bump, SS, reduceIte, reduceCtorEq]; exact rfl) rfl rfl ?_) | (refine arl_off rfl rfl ?_) | (refine aw_condT (by simp +decide only [aop, abuiltin, aeval, aintBin, bin_int, aload_bump, SS, reduceIte, reduceCtorEq]; first | done | exact rfl) ?_) | (refine aw_condF (by simp +decide only [aop, abuiltin, aeval, aintBin, bin_int, aload_bump, SS, reduceIte, reduceCtorEq]; first | done | exact rfl) ?_))
  refine arl_call rfl rfl rfl rfl rfl rfl ((parse_ok (by repeat (first | assumption | (refine WF.bump ?_ _))) (hEv.rd.up (by repeat (first | exact Keeps.refl _ _ | (refine Keeps.bumpR ?_ _)))) (by omega) (byte_lt hEby)).wf (by repeat (first | assumption | (refine WF.bump ?_ _) | (refine WF.put ?_ (by simp only [n_bump, n_put, n_touch, n_kill] at *; omega) (by simp only [n_bump, n_put, n_touch, n_kill] at *; omega)))) |>.mono ?_)
  rintro r s5 ⟨hw5, hn5, hE5, tv, L, rfl, htvs, hTk, hL, hLd⟩
  refine ⟨by first | rfl | with_reducible assumption, ?_⟩
  replace hE5 : Ext s4 s5 := Keeps.trans (by repeat (first | assumption | exact Keeps.refl _ _ | (refine Keeps.bumpR ?_ _) | (refine Keeps.put ?_ (by assumption) (by simp only [n_bump, n_put, n_touch, n_kill] at *; omega)))) hE5
  have hN5 := hE5.n
  rw [hpe] at hTk ⊢
  simp only at hTk ⊢
  have hgl := gtok_len b 8
  have hT5 := (hT3.trans hE4).trans hE5
  repeat (first | (refine aw_seq ?_) | (refine aw_reg0 (by simp only [SZ, Nat.reduceAdd]; exact rfl) ?_) | (refine aw_reg (by decide +kernel) (by simp only [SZ, Nat.reduceAdd]; exact rfl) ?_) | (refine aw_regS (by decide +kernel) (by simp only [SZ, Nat.reduceAdd]; exact rfl) ?_) | (refine arl_nil ?_) | (refine aw_skip ?_) | (refine aw_block ?_) | (refine aw_exit ?_) | (refine aw_ret ?_) | (refine arl_cons rfl rfl (by simp +decide only [aop, abuiltin, aeval, aintBin, bin_int, aload_bump, SS, reduceIte, reduceCtorEq, hln]; exact rfl) (by first | rfl | with_reducible assumption) rfl ?_) | (refine arl_none rfl rfl (by simp +decide only [aop, abuiltin, aeval, aintBin, bin_int, aload_bump, SS, reduceIte, reduceCtorEq, hln]; exact rfl) rfl rfl ?_) | (refine arl_off rfl rfl ?_) | (refine aw_condT (by simp +decide only [aop, abuiltin, aeval, aintBin, bin_int, aload_bump, SS, reduceIte, reduceCtorEq, hln]; first | done | exact rfl) ?_) | (refine aw_condF (by simp +decide only [aop, abuiltin, aeval, aintBin, bin_int, aload_bump, SS, reduceIte, reduceCtorEq, hln]; first | done | exact rfl) ?_))
  refine arl_call rfl rfl rfl rfl rfl rfl ((run_ok (by repeat (first | assumption | (refine WF.bump ?_ _))) b.length ((oTok_rd hTk).rd.up (by repeat (first | exact Keeps.refl _ _ | (refine Keeps.bumpR ?_ _)))) (by omega) (tok_lens (gtok_fine b 8))).wf (by repeat (first | assumption | (refine WF.bump ?_ _) | (refine WF.put ?_ (by simp only [n_bump, n_put, n_touch, n_kill] at *; omega) (by simp only [n_bump, n_put, n_touch, n_kill] at *; omega)))) |>.mono ?_)
  rintro r s6 ⟨hw6, hn6, hE6, ov, rfl, hovs, hO⟩
  refine ⟨by first | rfl | with_reducible assumption, ?_⟩
  replace hE6 : Ext s5 s6 := Keeps.trans (by repeat (first | assumption | exact Keeps.refl _ _ | (refine Keeps.bumpR ?_ _) | (refine Keeps.put ?_ (by assumption) (by simp only [n_bump, n_put, n_touch, n_kill] at *; omega)))) hE6
  have hN6 := hE6.n
  rw [gtok_run b hbs] at hO ⊢
  simp only at hO ⊢
  have hT6 := hT5.trans hE6
  repeat (first | (refine aw_seq ?_) | (refine aw_reg0 (by simp only [SZ, Nat.reduceAdd]; exact rfl) ?_) | (refine aw_reg (by decide +kernel) (by simp only [SZ, Nat.reduceAdd]; exact rfl) ?_) | (refine aw_regS (by decide +kernel) (by simp only [SZ, Nat.reduceAdd]; exact rfl) ?_) | (refine arl_nil ?_) | (refine aw_skip ?_) | (refine aw_block ?_) | (refine aw_exit ?_) | (refine aw_ret ?_) | (refine arl_cons rfl rfl (by simp +decide only [aop, abuiltin, aeval, aintBin, bin_int, aload_bump, SS, reduceIte, reduceCtorEq]; exact rfl) (by first | rfl | with_reducible assumption) rfl ?_) | (refine arl_none rfl rfl (by simp +decide only [aop, abuiltin, aeval, aintBin, bin_int, aload_bump, SS, reduceIte, reduceCtorEq]; exact rfl) rfl rfl ?_) | (refine arl_off rfl rfl ?_) | (refine aw_condT (by simp +decide only [aop, abuiltin, aeval, aintBin, bin_int, aload_bump, SS, reduceIte, reduceCtorEq]; first | done | exact rfl) ?_) | (refine aw_condF (by simp +decide only [aop, abuiltin, aeval, aintBin, bin_int, aload_bump, SS, reduceIte, reduceCtorEq]; first | done | exact rfl) ?_))
  refine arl_call rfl rfl rfl rfl rfl rfl ((same_self (by repeat (first | assumption | (refine WF.bump ?_ _))) (hO.rd.up (by repeat (first | exact Keeps.refl _ _ | (refine Keeps.bumpR ?_ _)))) ((hb.up hT6).up (by repeat (first | exact Keeps.refl _ _ | (refine Keeps.bumpR ?_ _)))) (by omega)).wf (by repeat (first | assumption | (refine WF.bump ?_ _) | (refine WF.put ?_ (by simp only [n_bump, n_put, n_touch, n_kill] at *; omega) (by simp only [n_bump, n_put, n_touch, n_kill] at *; omega)))) |>.mono ?_)
  rintro r s7 ⟨hw7, hn7, hE7, rfl⟩
  refine ⟨by first | rfl | with_reducible assumption, ?_⟩
  replace hE7 : Ext s6 s7 := Keeps.trans (by repeat (first | assumption | exact Keeps.refl _ _ | (refine Keeps.bumpR ?_ _) | (refine Keeps.put ?_ (by assumption) (by simp only [n_bump, n_put, n_touch, n_kill] at *; omega)))) hE7
  have hN7 := hE7.n
  have hT7 := hT6.trans hE7
  have hN7 := hT7.n
  repeat (first | (refine aw_seq ?_) | (refine aw_reg0 (by simp only [SZ, Nat.reduceAdd]; exact rfl) ?_) | (refine aw_reg (by decide +kernel) (by simp only [SZ, Nat.reduceAdd]; exact rfl) ?_) | (refine aw_regS (by decide +kernel) (by simp only [SZ, Nat.reduceAdd]; exact rfl) ?_) | (refine arl_nil ?_) | (refine aw_skip ?_) | (refine aw_block ?_) | (refine aw_exit ?_) | (refine aw_ret ?_) | (refine arl_cons rfl rfl (by simp +decide only [aop, abuiltin, aeval, aintBin, bin_int, aload_bump, SS, reduceIte, reduceCtorEq, litT0]; exact rfl) (by first | rfl | with_reducible assumption) rfl ?_) | (refine arl_none rfl rfl (by simp +decide only [aop, abuiltin, aeval, aintBin, bin_int, aload_bump, SS, reduceIte, reduceCtorEq, litT0]; exact rfl) rfl rfl ?_) | (refine arl_off rfl rfl ?_) | (refine aw_condT (by simp +decide only [aop, abuiltin, aeval, aintBin, bin_int, aload_bump, SS, reduceIte, reduceCtorEq, litT0]; first | done | exact rfl) ?_) | (refine aw_condF (by simp +decide only [aop, abuiltin, aeval, aintBin, bin_int, aload_bump, SS, reduceIte, reduceCtorEq, litT0]; first | done | exact rfl) ?_))
  refine AW.mono (AW.wf (aw_rounds_wf (fun m fr s => Ext s7 s ∧ ∃ (i : Nat) (acc : List Tok), m = b.length + 200 - i ∧ i ≤ b.length + 127 ∧ acc ++ pcs (b.drop i) = pcs b ∧ fr 0 = v ∧ fr 1 = i64 at_ ∧ fr 2 = u8 mask ∧ fr 9 = pv ∧ fr 17 ≠ .pl (.slice none 0 0) ∧ fr 18 = i64 i ∧ OwX tokK s (fun g => g = s7.n) (fun _ g => s7.n < g) TK (fr 17) acc)
    (Q := fun e fr s => e = .exit 0 ∧ Ext s7 s ∧ fr 0 = v ∧ fr 1 = i64 at_ ∧ fr 2 = u8 mask ∧ fr 9 = pv ∧ OwX tokK s (fun g => g = s7.n) (fun _ g => s7.n < g) TK (fr 17) (pcs b)) ?_ (b.length + 200) _ _ (by repeat (first | assumption | (refine WF.bump ?_ _) | (refine WF.put ?_ (by simp only [n_bump, n_put, n_touch, n_kill] at *; omega) (by simp only [n_bump, n_put, n_touch, n_kill] at *; omega)))) ?_) (by repeat (first | assumption | (refine WF.bump ?_ _) | (refine WF.put ?_ (by simp only [n_bump, n_put, n_touch, n_kill] at *; omega) (by simp only [n_bump, n_put, n_touch, n_kill] at *; omega))))) ?_
  · rintro m fr sx hwx ⟨hE, i, acc, rfl, hi, hacc, f0, f1, f2, f9, f17n, f18, hK⟩
    have hEn := hE.n
    obtain ⟨kv, f17⟩ : ∃ x, fr 17 = x := ⟨_, rfl⟩
    rw [f17] at hK f17n
    have hks := hK.solid
    by_cases hlt : i < b.length
    · have d2 : decide ((i : Int) < (b.length : Int)) = true := decide_eq_true (by omega)
      have hdne : b.drop i ≠ [] := fun h => by have := congrArg List.length h; rw [List.length_drop] at this; simp at this; omega
      have hst := pcs_step (b.drop i) hdne
      rw [List.drop_drop] at hst
      have hwi : IntKind.i64.wrap ((i : Int) + 128) = ((i + 128 : Nat) : Int) := by rw [wrap64_of (by omega) (by omega)]; omega
      have hal : acc.length ≤ 2000000 := by
        have h1 := congrArg List.length hacc
        have h2 := pcs_ln b
        rw [List.length_append] at h1
        omega
      repeat (first | (refine aw_seq ?_) | (refine aw_reg0 (by simp only [SZ, Nat.reduceAdd]; exact rfl) ?_) | (refine aw_reg (by decide +kernel) (by simp only [SZ, Nat.reduceAdd]; exact rfl) ?_) | (refine aw_regS (by decide +kernel) (by simp only [SZ, Nat.reduceAdd]; exact rfl) ?_) | (refine arl_nil ?_) | (refine aw_skip ?_) | (refine aw_block ?_) | (refine aw_exit ?_) | (refine aw_ret ?_) | (refine arl_cons rfl rfl (by simp +decide only [aop, abuiltin, aeval, aintBin, bin_int, aload_bump, SS, reduceIte, reduceCtorEq, f18, f0, hln, d2, f17, hwi]; exact rfl) (by first | rfl | with_reducible assumption) rfl ?_) | (refine arl_none rfl rfl (by simp +decide only [aop, abuiltin, aeval, aintBin, bin_int, aload_bump, SS, reduceIte, reduceCtorEq, f18, f0, hln, d2, f17, hwi]; exact rfl) rfl rfl ?_) | (refine arl_off rfl rfl ?_) | (refine aw_condT (by simp +decide only [aop, abuiltin, aeval, aintBin, bin_int, aload_bump, SS, reduceIte, reduceCtorEq, f18, f0, hln, d2, f17, hwi]; first | done | exact rfl) ?_) | (refine aw_condF (by simp +decide only [aop, abuiltin, aeval, aintBin, bin_int, aload_bump, SS, reduceIte, reduceCtorEq, f18, f0, hln, d2, f17, hwi]; first | done | exact rfl) ?_))
      refine arl_call rfl rfl rfl rfl rfl rfl ((pieceP_ok (by repeat (first | assumption | (refine WF.bump ?_ _))) (((hb.up hT7).up hE).up (by repeat (first | exact Keeps.refl _ _ | (refine Keeps.bumpR ?_ _)))) i ((i + 128 : Nat) : Int) (by omega) (by omega)).dead.wf (by repeat (first | assumption | (refine WF.bump ?_ _) | (refine WF.put ?_ (by simp only [n_bump, n_put, n_touch, n_kill] at *; omega) (by simp only [n_bump, n_put, n_touch, n_kill] at *; omega)))) |>.mono ?_)
      rintro qv s8 ⟨hw8, hn8, hd8, hE8, hqvs, hQ⟩
      refine ⟨hqvs, ?_⟩
      replace hE8 : Ext sx s8 := Keeps.trans (show Ext sx _ from (by repeat (first | exact Keeps.refl _ _ | (refine Keeps.bumpR ?_ _)))) hE8
      have hpe8 : (b.drop (i : Int).toNat).take (((i + 128 : Nat) : Int).toNat - (i : Int).toNat) = (b.drop i).take 128 := by
        rw [Int.toNat_natCast, Int.toNat_natCast, show i + 128 - i = 128 by omega]
      rw [hpe8] at hQ
      replace hQ := hQ.rd.lt hw8
      have hN8 := hE8.n
      have hbt := bldTl hQ
      simp only [n_bump] at hn8 hQ
      have hput : ∀ o : AObj, Ext s8 (s8.put (sx.n + 4 + (0 + 1 + 1 + 1 + 1 + 1 + 1 + 1)) o) := fun o => Keeps.putF (Keeps.refl _ _) (hd8 _ (by first | omega | (simp only [n_bump, n_put]; omega) | (simp only [n_bump, n_put] at *; omega)) (fresh hwx (by first | omega | (simp only [n_bump, n_put]; omega) | (simp only [n_bump, n_put] at *; omega))))
      repeat (first | (refine aw_seq ?_) | (refine aw_reg0 (by simp only [SZ, Nat.reduceAdd]; exact rfl) ?_) | (refine aw_reg (by decide +kernel) (by simp only [SZ, Nat.reduceAdd]; exact rfl) ?_) | (refine aw_regS (by decide +kernel) (by simp only [SZ, Nat.reduceAdd]; exact rfl) ?_) | (refine arl_nil ?_) | (refine aw_skip ?_) | (refine aw_block ?_) | (refine aw_exit ?_) | (refine aw_ret ?_) | (refine arl_cons rfl rfl (by simp +decide only [aop, abuiltin, aeval, aintBin, bin_int, aload_bump, SS, reduceIte, reduceCtorEq, hbt, litT1]; exact rfl) (by first | rfl | with_reducible assumption) rfl ?_) | (refine arl_none rfl rfl (by simp +decide only [aop, abuiltin, aeval, aintBin, bin_int, aload_bump, SS, reduceIte, reduceCtorEq, hbt, litT1]; exact rfl) rfl rfl ?_) | (refine arl_off rfl rfl ?_) | (refine aw_condT (by simp +decide only [aop, abuiltin, aeval, aintBin, bin_int, aload_bump, SS, reduceIte, reduceCtorEq, hbt, litT1]; first | done | exact rfl) ?_) | (refine aw_condF (by simp +decide only [aop, abuiltin, aeval, aintBin, bin_int, aload_bump, SS, reduceIte, reduceCtorEq, hbt, litT1]; first | done | exact rfl) ?_))
      refine arl_appX (k := tokK) (K0 := fun g => g = s7.n) (L0 := fun _ g => s7.n < g) (Kx := fun _ => True) (Kn := fun g => sx.n + 14 ≤ g ∧ g < s8.n) (K := fun g => g = s7.n) (L := fun _ g => s7.n < g) (xs := acc) (ns := [((b.drop i).take 128, 0, 0)]) TTK rfl rfl rfl ((hK.up hE8).up (hput _)) (RdL.one ⟨qv, rfl, ?pvR⟩ rfl _ trivial _) (fun g h h' => by omega) ⟨fun h => by have := h.1; simp only [n_bump] at this; omega, fun h => absurd h f17n⟩ (fun _ h => h) (fun _ _ _ h => h) (fun _ g _ _ h => by omega) ?hfr (by simp; omega) (by simp; omega) ?_
      case pvR => exact (hQ.mono (fun g hg => ⟨by omega, hg.2⟩)).up (hput _)
      case hfr =>
        rw [get_put_ne _ (by simp only [n_bump]; omega)]
        exact hd8 _ (by first | omega | (simp only [n_bump, n_put]; omega) | (simp only [n_bump, n_put] at *; omega)) (fresh hwx (by first | omega | (simp only [n_bump, n_put]; omega) | (simp only [n_bump, n_put] at *; omega)))
      intro y s9 hO9 hn9 hE9 hwf9
      have hys := hO9.solid
      have hyn := hO9.ne
      replace hE9 : Keeps (fun g => g = s7.n) s8 s9 := Keeps.trans (Keeps.mono (G := fun _ => False) (hput _) (fun _ h => h.elim)) hE9
      have hT9 : Ext s7 s9 := Keeps.call (hE.trans hE8) hE9 hw7 (fun g h => .inr (by omega))
      repeat (first | (refine aw_seq ?_) | (refine aw_reg0 (by simp only [SZ, Nat.reduceAdd]; exact rfl) ?_) | (refine aw_reg (by decide +kernel) (by simp only [SZ, Nat.reduceAdd]; exact rfl) ?_) | (refine aw_regS (by decide +kernel) (by simp only [SZ, Nat.reduceAdd]; exact rfl) ?_) | (refine arl_nil ?_) | (refine aw_skip ?_) | (refine aw_block ?_) | (refine aw_exit ?_) | (refine aw_ret ?_) | (refine arl_cons rfl rfl (by simp +decide only [aop, abuiltin, aeval, aintBin, bin_int, aload_bump, SS, reduceIte, reduceCtorEq, f18, hwi]; exact rfl) (by first | rfl | with_reducible assumption) rfl ?_) | (refine arl_none rfl rfl (by simp +decide only [aop, abuiltin, aeval, aintBin, bin_int, aload_bump, SS, reduceIte, reduceCtorEq, f18, hwi]; exact rfl) rfl rfl ?_) | (refine arl_off rfl rfl ?_) | (refine aw_condT (by simp +decide only [aop, abuiltin, aeval, aintBin, bin_int, aload_bump, SS, reduceIte, reduceCtorEq, f18, hwi]; first | done | exact rfl) ?_) | (refine aw_condF (by simp +decide only [aop, abuiltin, aeval, aintBin, bin_int, aload_bump, SS, reduceIte, reduceCtorEq, f18, hwi]; first | done | exact rfl) ?_))
      refine ⟨b.length + 200 - (i + 128), by omega, hT9.trans (by repeat (first | exact Keeps.refl _ _ | (refine Keeps.bumpR ?_ _))), i + 128, acc ++ [((b.drop i).take 128, 0, 0)], rfl, by omega, ?_, f0, f1, f2, f9, hyn, rfl, hO9.up (by repeat (first | exact Keeps.refl _ _ | (refine Keeps.bumpR ?_ _)))⟩
      rw [List.append_assoc, List.singleton_append, ← hst]
      exact hacc
    · have d2 : decide ((i : Int) < (b.length : Int)) = false := decide_eq_false (by omega)
      rw [List.drop_of_length_le (by omega), pcs_nil, List.append_nil] at hacc
      subst hacc
      repeat (first | (refine aw_seq ?_) | (refine aw_reg0 (by simp only [SZ, Nat.reduceAdd]; exact rfl) ?_) | (refine aw_reg (by decide +kernel) (by simp only [SZ, Nat.reduceAdd]; exact rfl) ?_) | (refine aw_regS (by decide +kernel) (by simp only [SZ, Nat.reduceAdd]; exact rfl) ?_) | (refine arl_nil ?_) | (refine aw_skip ?_) | (refine aw_block ?_) | (refine aw_exit ?_) | (refine aw_ret ?_) | (refine arl_cons rfl rfl (by simp +decide only [aop, abuiltin, aeval, aintBin, bin_int, aload_bump, SS, reduceIte, reduceCtorEq, f18, f0, hln, d2]; exact rfl) (by first | rfl | with_reducible assumption) rfl ?_) | (refine arl_none rfl rfl (by simp +decide only [aop, abuiltin, aeval, aintBin, bin_int, aload_bump, SS, reduceIte, reduceCtorEq, f18, f0, hln, d2]; exact rfl) rfl rfl ?_) | (refine arl_off rfl rfl ?_) | (refine aw_condT (by simp +decide only [aop, abuiltin, aeval, aintBin, bin_int, aload_bump, SS, reduceIte, reduceCtorEq, f18, f0, hln, d2]; first | done | exact rfl) ?_) | (refine aw_condF (by simp +decide only [aop, abuiltin, aeval, aintBin, bin_int, aload_bump, SS, reduceIte, reduceCtorEq, f18, f0, hln, d2]; first | done | exact rfl) ?_))
      exact ⟨rfl, hE.trans (by repeat (first | exact Keeps.refl _ _ | (refine Keeps.bumpR ?_ _))), f0, f1, f2, f9, by show OwX _ _ _ _ _ (fr 17) _; rw [f17]; exact hK.up (by repeat (first | exact Keeps.refl _ _ | (refine Keeps.bumpR ?_ _)))⟩
  · refine ⟨(by repeat (first | assumption | exact Keeps.refl _ _ | (refine Keeps.bumpR ?_ _) | (refine Keeps.put ?_ (by assumption) (by simp only [n_bump, n_put, n_touch, n_kill] at *; omega)))), 0, [], rfl, by omega, by rw [List.nil_append, List.drop_zero], rfl, rfl, rfl, rfl, (fun h => by cases h), rfl, ?_⟩
    exact OwX.new' (k := tokK) _ (get_put _ _)
  rintro e fr s8 ⟨hw8, hn8, rfl, hE8, f0, f1, f2, f9, hK⟩
  obtain ⟨kv, f17⟩ : ∃ x, fr 17 = x := ⟨_, rfl⟩
  rw [f17] at hK
  have hks := hK.solid
  have hN8 := hE8.n
  have hT8 := hT7.trans hE8
  have hpl := pcs_ln b
  have hfine := pcs_fine b
  have hprint := pr_fine (pcs b) [] (pcs_fine b)
  rw [List.nil_append] at hprint
  have hback := pcs_back b hbs hby
  have hCby := encs_byts (pcs_fine b) (pcs_bytes b hby)
  have hCl := pcs_size b.length b (Nat.le_refl _)
  rw [hH] at hback
  obtain ⟨C, hC⟩ : ∃ C, encs (pcs b) = C := ⟨_, rfl⟩
  rw [hC] at hprint hback hCby hCl
  have hHby : byts H := fun y hy => hPby y (List.mem_append_left _ hy)
  have hcby : byts (H ++ C) := bytes_append hHby hCby
  repeat (first | (refine aw_seq ?_) | (refine aw_reg0 (by simp only [SZ, Nat.reduceAdd]; exact rfl) ?_) | (refine aw_reg (by decide +kernel) (by simp only [SZ, Nat.reduceAdd]; exact rfl) ?_) | (refine aw_regS (by decide +kernel) (by simp only [SZ, Nat.reduceAdd]; exact rfl) ?_) | (refine arl_nil ?_) | (refine aw_skip ?_) | (refine aw_block ?_) | (refine aw_exit ?_) | (refine aw_ret ?_) | (refine arl_cons rfl rfl (by simp +decide only [aop, abuiltin, aeval, aintBin, bin_int, aload_bump, SS, reduceIte, reduceCtorEq, f17]; exact rfl) (by first | rfl | with_reducible assumption) rfl ?_) | (refine arl_none rfl rfl (by simp +decide only [aop, abuiltin, aeval, aintBin, bin_int, aload_bump, SS, reduceIte, reduceCtorEq, f17]; exact rfl) rfl rfl ?_) | (refine arl_off rfl rfl ?_) | (refine aw_condT (by simp +decide only [aop, abuiltin, aeval, aintBin, bin_int, aload_bump, SS, reduceIte, reduceCtorEq, f17]; first | done | exact rfl) ?_) | (refine aw_condF (by simp +decide only [aop, abuiltin, aeval, aintBin, bin_int, aload_bump, SS, reduceIte, reduceCtorEq, f17]; first | done | exact rfl) ?_))
  refine arl_call rfl rfl rfl rfl rfl rfl ((print_ok (by repeat (first | assumption | (refine WF.bump ?_ _))) (hK.rd.up (by repeat (first | exact Keeps.refl _ _ | (refine Keeps.bumpR ?_ _)))) (by omega)).wf (by repeat (first | assumption | (refine WF.bump ?_ _) | (refine WF.put ?_ (by simp only [n_bump, n_put, n_touch, n_kill] at *; omega) (by simp only [n_bump, n_put, n_touch, n_kill] at *; omega)))) |>.mono ?_)
  rintro r s9 ⟨hw9, hn9, hE9, cv, rfl, hcvs, hCv⟩
  refine ⟨by first | rfl | with_reducible assumption, ?_⟩
  replace hE9 : Ext s8 s9 := Keeps.trans (by repeat (first | assumption | exact Keeps.refl _ _ | (refine Keeps.bumpR ?_ _) | (refine Keeps.put ?_ (by assumption) (by simp only [n_bump, n_put, n_touch, n_kill] at *; omega)))) hE9
  have hN9 := hE9.n
  rw [hprint] at hCv ⊢
  simp only at hCv ⊢
  have hT9 := hT8.trans hE9
  repeat (first | (refine aw_seq ?_) | (refine aw_reg0 (by simp only [SZ, Nat.reduceAdd]; exact rfl) ?_) | (refine aw_reg (by decide +kernel) (by simp only [SZ, Nat.reduceAdd]; exact rfl) ?_) | (refine aw_regS (by decide +kernel) (by simp only [SZ, Nat.reduceAdd]; exact rfl) ?_) | (refine arl_nil ?_) | (refine aw_skip ?_) | (refine aw_block ?_) | (refine aw_exit ?_) | (refine aw_ret ?_) | (refine arl_cons rfl rfl (by simp +decide only [aop, abuiltin, aeval, aintBin, bin_int, aload_bump, SS, reduceIte, reduceCtorEq, f0, hln]; exact rfl) (by first | rfl | with_reducible assumption) rfl ?_) | (refine arl_none rfl rfl (by simp +decide only [aop, abuiltin, aeval, aintBin, bin_int, aload_bump, SS, reduceIte, reduceCtorEq, f0, hln]; exact rfl) rfl rfl ?_) | (refine arl_off rfl rfl ?_) | (refine aw_condT (by simp +decide only [aop, abuiltin, aeval, aintBin, bin_int, aload_bump, SS, reduceIte, reduceCtorEq, f0, hln]; first | done | exact rfl) ?_) | (refine aw_condF (by simp +decide only [aop, abuiltin, aeval, aintBin, bin_int, aload_bump, SS, reduceIte, reduceCtorEq, f0, hln]; first | done | exact rfl) ?_))
  refine arl_call rfl rfl rfl rfl rfl rfl ((vPut_ok (by repeat (first | assumption | (refine WF.bump ?_ _))) (fit_nat hbl)).wf (by repeat (first | assumption | (refine WF.bump ?_ _) | (refine WF.put ?_ (by simp only [n_bump, n_put, n_touch, n_kill] at *; omega) (by simp only [n_bump, n_put, n_touch, n_kill] at *; omega)))) |>.mono ?_)
  rintro hv s10 ⟨hw10, hn10, hE10, hhvs, hHv⟩
  refine ⟨by first | rfl | with_reducible assumption, ?_⟩
  replace hE10 : Ext s9 s10 := Keeps.trans (by repeat (first | assumption | exact Keeps.refl _ _ | (refine Keeps.bumpR ?_ _) | (refine Keeps.put ?_ (by assumption) (by simp only [n_bump, n_put, n_touch, n_kill] at *; omega)))) hE10
  have hN10 := hE10.n
  rw [hH] at hHv
  repeat (first | (refine aw_seq ?_) | (refine aw_reg0 (by simp only [SZ, Nat.reduceAdd]; exact rfl) ?_) | (refine aw_reg (by decide +kernel) (by simp only [SZ, Nat.reduceAdd]; exact rfl) ?_) | (refine aw_regS (by decide +kernel) (by simp only [SZ, Nat.reduceAdd]; exact rfl) ?_) | (refine arl_nil ?_) | (refine aw_skip ?_) | (refine aw_block ?_) | (refine aw_exit ?_) | (refine aw_ret ?_) | (refine arl_cons rfl rfl (by simp +decide only [aop, abuiltin, aeval, aintBin, bin_int, aload_bump, SS, reduceIte, reduceCtorEq]; exact rfl) (by first | rfl | with_reducible assumption) rfl ?_) | (refine arl_none rfl rfl (by simp +decide only [aop, abuiltin, aeval, aintBin, bin_int, aload_bump, SS, reduceIte, reduceCtorEq]; exact rfl) rfl rfl ?_) | (refine arl_off rfl rfl ?_) | (refine aw_condT (by simp +decide only [aop, abuiltin, aeval, aintBin, bin_int, aload_bump, SS, reduceIte, reduceCtorEq]; first | done | exact rfl) ?_) | (refine aw_condF (by simp +decide only [aop, abuiltin, aeval, aintBin, bin_int, aload_bump, SS, reduceIte, reduceCtorEq]; first | done | exact rfl) ?_))
  refine arl_call rfl rfl rfl rfl rfl rfl ((cat_ok (by repeat (first | assumption | (refine WF.bump ?_ _))) (hHv.rd.up (by repeat (first | exact Keeps.refl _ _ | (refine Keeps.bumpR ?_ _)))) ((hCv.rd.up hE10).up (by repeat (first | exact Keeps.refl _ _ | (refine Keeps.bumpR ?_ _)))) (by omega)).wf (by repeat (first | assumption | (refine WF.bump ?_ _) | (refine WF.put ?_ (by simp only [n_bump, n_put, n_touch, n_kill] at *; omega) (by simp only [n_bump, n_put, n_touch, n_kill] at *; omega)))) |>.mono ?_)
  rintro mv s11 ⟨hw11, hn11, hE11, hmvs, hMv⟩
  refine ⟨by first | rfl | with_reducible assumption, ?_⟩
  replace hE11 : Ext s10 s11 := Keeps.trans (by repeat (first | assumption | exact Keeps.refl _ _ | (refine Keeps.bumpR ?_ _) | (refine Keeps.put ?_ (by assumption) (by simp only [n_bump, n_put, n_touch, n_kill] at *; omega)))) hE11
  have hN11 := hE11.n
  repeat (first | (refine aw_seq ?_) | (refine aw_reg0 (by simp only [SZ, Nat.reduceAdd]; exact rfl) ?_) | (refine aw_reg (by decide +kernel) (by simp only [SZ, Nat.reduceAdd]; exact rfl) ?_) | (refine aw_regS (by decide +kernel) (by simp only [SZ, Nat.reduceAdd]; exact rfl) ?_) | (refine arl_nil ?_) | (refine aw_skip ?_) | (refine aw_block ?_) | (refine aw_exit ?_) | (refine aw_ret ?_) | (refine arl_cons rfl rfl (by simp +decide only [aop, abuiltin, aeval, aintBin, bin_int, aload_bump, SS, reduceIte, reduceCtorEq, f0, hln]; exact rfl) (by first | rfl | with_reducible assumption) rfl ?_) | (refine arl_none rfl rfl (by simp +decide only [aop, abuiltin, aeval, aintBin, bin_int, aload_bump, SS, reduceIte, reduceCtorEq, f0, hln]; exact rfl) rfl rfl ?_) | (refine arl_off rfl rfl ?_) | (refine aw_condT (by simp +decide only [aop, abuiltin, aeval, aintBin, bin_int, aload_bump, SS, reduceIte, reduceCtorEq, f0, hln]; first | done | exact rfl) ?_) | (refine aw_condF (by simp +decide only [aop, abuiltin, aeval, aintBin, bin_int, aload_bump, SS, reduceIte, reduceCtorEq, f0, hln]; first | done | exact rfl) ?_))
  refine arl_call rfl rfl rfl rfl rfl rfl ((unpack_ok (by repeat (first | assumption | (refine WF.bump ?_ _))) b.length (hMv.rd.up (by repeat (first | exact Keeps.refl _ _ | (refine Keeps.bumpR ?_ _)))) (by rw [List.length_append]; omega) hcby).wf (by repeat (first | assumption | (refine WF.bump ?_ _) | (refine WF.put ?_ (by simp only [n_bump, n_put, n_touch, n_kill] at *; omega) (by simp only [n_bump, n_put, n_touch, n_kill] at *; omega)))) |>.mono ?_)
  rintro r s12 ⟨hw12, hn12, hE12, uv, rfl, huvs, hUv⟩
  refine ⟨by first | rfl | with_reducible assumption, ?_⟩
  replace hE12 : Ext s11 s12 := Keeps.trans (by repeat (first | assumption | exact Keeps.refl _ _ | (refine Keeps.bumpR ?_ _) | (refine Keeps.put ?_ (by assumption) (by simp only [n_bump, n_put, n_touch, n_kill] at *; omega)))) hE12
  have hN12 := hE12.n
  rw [hback] at hUv ⊢
  simp only at hUv ⊢
  have hT12 := ((hT9.trans hE10).trans hE11).trans hE12
  have hP12 : OwB s12 _ pv _ := (hP.up (((hE3.trans hE4).trans hE5).trans (hE6.trans (hE7.trans hE8)))).up ((hE9.trans hE10).trans (hE11.trans hE12))
  repeat (first | (refine aw_seq ?_) | (refine aw_reg0 (by simp only [SZ, Nat.reduceAdd]; exact rfl) ?_) | (refine aw_reg (by decide +kernel) (by simp only [SZ, Nat.reduceAdd]; exact rfl) ?_) | (refine aw_regS (by decide +kernel) (by simp only [SZ, Nat.reduceAdd]; exact rfl) ?_) | (refine arl_nil ?_) | (refine aw_skip ?_) | (refine aw_block ?_) | (refine aw_exit ?_) | (refine aw_ret ?_) | (refine arl_cons rfl rfl (by simp +decide only [aop, abuiltin, aeval, aintBin, bin_int, aload_bump, SS, reduceIte, reduceCtorEq, f9, f0, hln]; exact rfl) (by first | rfl | with_reducible assumption) rfl ?_) | (refine arl_none rfl rfl (by simp +decide only [aop, abuiltin, aeval, aintBin, bin_int, aload_bump, SS, reduceIte, reduceCtorEq, f9, f0, hln]; exact rfl) rfl rfl ?_) | (refine arl_off rfl rfl ?_) | (refine aw_condT (by simp +decide only [aop, abuiltin, aeval, aintBin, bin_int, aload_bump, SS, reduceIte, reduceCtorEq, f9, f0, hln]; first | done | exact rfl) ?_) | (refine aw_condF (by simp +decide only [aop, abuiltin, aeval, aintBin, bin_int, aload_bump, SS, reduceIte, reduceCtorEq, f9, f0, hln]; first | done | exact rfl) ?_))
  refine arl_call rfl rfl rfl rfl rfl rfl ((unpack_ok (by repeat (first | assumption | (refine WF.bump ?_ _))) b.length (hP12.rd.up (by repeat (first | exact Keeps.refl _ _ | (refine Keeps.bumpR ?_ _)))) (by omega) hPby).wf (by repeat (first | assumption | (refine WF.bump ?_ _) | (refine WF.put ?_ (by simp only [n_bump, n_put, n_touch, n_kill] at *; omega) (by simp only [n_bump, n_put, n_touch, n_kill] at *; omega)))) |>.mono ?_)
  rintro r s13 ⟨hw13, hn13, hE13, wv, rfl, hwvs, hWv⟩
  refine ⟨by first | rfl | with_reducible assumption, ?_⟩
  replace hE13 : Ext s12 s13 := Keeps.trans (by repeat (first | assumption | exact Keeps.refl _ _ | (refine Keeps.bumpR ?_ _) | (refine Keeps.put ?_ (by assumption) (by simp only [n_bump, n_put, n_touch, n_kill] at *; omega)))) hE13
  have hN13 := hE13.n
  rw [hPun] at hWv ⊢
  simp only at hWv ⊢
  have hT13 := hT12.trans hE13
  repeat (first | (refine aw_seq ?_) | (refine aw_reg0 (by simp only [SZ, Nat.reduceAdd]; exact rfl) ?_) | (refine aw_reg (by decide +kernel) (by simp only [SZ, Nat.reduceAdd]; exact rfl) ?_) | (refine aw_regS (by decide +kernel) (by simp only [SZ, Nat.reduceAdd]; exact rfl) ?_) | (refine arl_nil ?_) | (refine aw_skip ?_) | (refine aw_block ?_) | (refine aw_exit ?_) | (refine aw_ret ?_) | (refine arl_cons rfl rfl (by simp +decide only [aop, abuiltin, aeval, aintBin, bin_int, aload_bump, SS, reduceIte, reduceCtorEq, f0]; exact rfl) (by first | rfl | with_reducible assumption) rfl ?_) | (refine arl_none rfl rfl (by simp +decide only [aop, abuiltin, aeval, aintBin, bin_int, aload_bump, SS, reduceIte, reduceCtorEq, f0]; exact rfl) rfl rfl ?_) | (refine arl_off rfl rfl ?_) | (refine aw_condT (by simp +decide only [aop, abuiltin, aeval, aintBin, bin_int, aload_bump, SS, reduceIte, reduceCtorEq, f0]; first | done | exact rfl) ?_) | (refine aw_condF (by simp +decide only [aop, abuiltin, aeval, aintBin, bin_int, aload_bump, SS, reduceIte, reduceCtorEq, f0]; first | done | exact rfl) ?_))
  refine arl_call rfl rfl rfl rfl rfl rfl ((same_self (by repeat (first | assumption | (refine WF.bump ?_ _))) ((hUv.rd.up hE13).up (by repeat (first | exact Keeps.refl _ _ | (refine Keeps.bumpR ?_ _)))) ((hb.up hT13).up (by repeat (first | exact Keeps.refl _ _ | (refine Keeps.bumpR ?_ _)))) (by omega)).wf (by repeat (first | assumption | (refine WF.bump ?_ _) | (refine WF.put ?_ (by simp only [n_bump, n_put, n_touch, n_kill] at *; omega) (by simp only [n_bump, n_put, n_touch, n_kill] at *; omega)))) |>.mono ?_)
  rintro r s14 ⟨hw14, hn14, hE14, rfl⟩
  refine ⟨by first | rfl | with_reducible assumption, ?_⟩
  replace hE14 : Ext s13 s14 := Keeps.trans (by repeat (first | assumption | exact Keeps.refl _ _ | (refine Keeps.bumpR ?_ _) | (refine Keeps.put ?_ (by assumption) (by simp only [n_bump, n_put, n_touch, n_kill] at *; omega)))) hE14
  have hN14 := hE14.n
  repeat (first | (refine aw_seq ?_) | (refine aw_reg0 (by simp only [SZ, Nat.reduceAdd]; exact rfl) ?_) | (refine aw_reg (by decide +kernel) (by simp only [SZ, Nat.reduceAdd]; exact rfl) ?_) | (refine aw_regS (by decide +kernel) (by simp only [SZ, Nat.reduceAdd]; exact rfl) ?_) | (refine arl_nil ?_) | (refine aw_skip ?_) | (refine aw_block ?_) | (refine aw_exit ?_) | (refine aw_ret ?_) | (refine arl_cons rfl rfl (by simp +decide only [aop, abuiltin, aeval, aintBin, bin_int, aload_bump, SS, reduceIte, reduceCtorEq, f0]; exact rfl) (by first | rfl | with_reducible assumption) rfl ?_) | (refine arl_none rfl rfl (by simp +decide only [aop, abuiltin, aeval, aintBin, bin_int, aload_bump, SS, reduceIte, reduceCtorEq, f0]; exact rfl) rfl rfl ?_) | (refine arl_off rfl rfl ?_) | (refine aw_condT (by simp +decide only [aop, abuiltin, aeval, aintBin, bin_int, aload_bump, SS, reduceIte, reduceCtorEq, f0]; first | done | exact rfl) ?_) | (refine aw_condF (by simp +decide only [aop, abuiltin, aeval, aintBin, bin_int, aload_bump, SS, reduceIte, reduceCtorEq, f0]; first | done | exact rfl) ?_))
  refine arl_call rfl rfl rfl rfl rfl rfl ((same_self (by repeat (first | assumption | (refine WF.bump ?_ _))) ((hWv.rd.up hE14).up (by repeat (first | exact Keeps.refl _ _ | (refine Keeps.bumpR ?_ _)))) (((hb.up hT13).up hE14).up (by repeat (first | exact Keeps.refl _ _ | (refine Keeps.bumpR ?_ _)))) (by omega)).wf (by repeat (first | assumption | (refine WF.bump ?_ _) | (refine WF.put ?_ (by simp only [n_bump, n_put, n_touch, n_kill] at *; omega) (by simp only [n_bump, n_put, n_touch, n_kill] at *; omega)))) |>.mono ?_)
  rintro r s15 ⟨hw15, hn15, hE15, rfl⟩
  refine ⟨by first | rfl | with_reducible assumption, ?_⟩
  replace hE15 : Ext s14 s15 := Keeps.trans (by repeat (first | assumption | exact Keeps.refl _ _ | (refine Keeps.bumpR ?_ _) | (refine Keeps.put ?_ (by assumption) (by simp only [n_bump, n_put, n_touch, n_kill] at *; omega)))) hE15
  have hN15 := hE15.n
  have hT15 := (hT13.trans hE14).trans hE15
  have hP15 := ((hP12.up hE13).up hE14).up hE15
  obtain ⟨pl, hpl2⟩ : ∃ pl, H ++ E = pl := ⟨_, rfl⟩
  rw [hpl2] at hP15 hPby hlp hPln
  by_cases h0 : at_ < 0
  · have e1 : decide (at_ < 0) = true := decide_eq_true h0
    repeat (first | (refine aw_seq ?_) | (refine aw_reg0 (by simp only [SZ, Nat.reduceAdd]; exact rfl) ?_) | (refine aw_reg (by decide +kernel) (by simp only [SZ, Nat.reduceAdd]; exact rfl) ?_) | (refine aw_regS (by decide +kernel) (by simp only [SZ, Nat.reduceAdd]; exact rfl) ?_) | (refine arl_nil ?_) | (refine aw_skip ?_) | (refine aw_block ?_) | (refine aw_exit ?_) | (refine aw_ret ?_) | (refine arl_cons rfl rfl (by simp +decide only [aop, abuiltin, aeval, aintBin, bin_int, aload_bump, SS, reduceIte, reduceCtorEq, f1, e1, f9, hlp, f2]; exact rfl) (by first | rfl | with_reducible assumption) rfl ?_) | (refine arl_none rfl rfl (by simp +decide only [aop, abuiltin, aeval, aintBin, bin_int, aload_bump, SS, reduceIte, reduceCtorEq, f1, e1, f9, hlp, f2]; exact rfl) rfl rfl ?_) | (refine arl_off rfl rfl ?_) | (refine aw_condT (by simp +decide only [aop, abuiltin, aeval, aintBin, bin_int, aload_bump, SS, reduceIte, reduceCtorEq, f1, e1, f9, hlp, f2]; first | done | exact rfl) ?_) | (refine aw_condF (by simp +decide only [aop, abuiltin, aeval, aintBin, bin_int, aload_bump, SS, reduceIte, reduceCtorEq, f1, e1, f9, hlp, f2]; first | done | exact rfl) ?_))
    exact ⟨.inr rfl, _, rfl, rfl⟩
  have e1 : decide (at_ < 0) = false := decide_eq_false h0
  by_cases h1 : (pl.length : Int) ≤ at_
  · have e2 : decide (at_ ≥ (pl.length : Int)) = true := decide_eq_true h1
    repeat (first | (refine aw_seq ?_) | (refine aw_reg0 (by simp only [SZ, Nat.reduceAdd]; exact rfl) ?_) | (refine aw_reg (by decide +kernel) (by simp only [SZ, Nat.reduceAdd]; exact rfl) ?_) | (refine aw_regS (by decide +kernel) (by simp only [SZ, Nat.reduceAdd]; exact rfl) ?_) | (refine arl_nil ?_) | (refine aw_skip ?_) | (refine aw_block ?_) | (refine aw_exit ?_) | (refine aw_ret ?_) | (refine arl_cons rfl rfl (by simp +decide only [aop, abuiltin, aeval, aintBin, bin_int, aload_bump, SS, reduceIte, reduceCtorEq, f1, e1, f9, hlp, e2, f2]; exact rfl) (by first | rfl | with_reducible assumption) rfl ?_) | (refine arl_none rfl rfl (by simp +decide only [aop, abuiltin, aeval, aintBin, bin_int, aload_bump, SS, reduceIte, reduceCtorEq, f1, e1, f9, hlp, e2, f2]; exact rfl) rfl rfl ?_) | (refine arl_off rfl rfl ?_) | (refine aw_condT (by simp +decide only [aop, abuiltin, aeval, aintBin, bin_int, aload_bump, SS, reduceIte, reduceCtorEq, f1, e1, f9, hlp, e2, f2]; first | done | exact rfl) ?_) | (refine aw_condF (by simp +decide only [aop, abuiltin, aeval, aintBin, bin_int, aload_bump, SS, reduceIte, reduceCtorEq, f1, e1, f9, hlp, e2, f2]; first | done | exact rfl) ?_))
    exact ⟨.inr rfl, _, rfl, rfl⟩
  have e2 : decide (at_ ≥ (pl.length : Int)) = false := decide_eq_false h1
  by_cases h2 : mask = 0
  · have e3 : (mask == 0) = true := by rw [h2]; rfl
    repeat (first | (refine aw_seq ?_) | (refine aw_reg0 (by simp only [SZ, Nat.reduceAdd]; exact rfl) ?_) | (refine aw_reg (by decide +kernel) (by simp only [SZ, Nat.reduceAdd]; exact rfl) ?_) | (refine aw_regS (by decide +kernel) (by simp only [SZ, Nat.reduceAdd]; exact rfl) ?_) | (refine arl_nil ?_) | (refine aw_skip ?_) | (refine aw_block ?_) | (refine aw_exit ?_) | (refine aw_ret ?_) | (refine arl_cons rfl rfl (by simp +decide only [aop, abuiltin, aeval, aintBin, bin_int, aload_bump, SS, reduceIte, reduceCtorEq, f1, e1, f9, hlp, e2, f2, e3]; exact rfl) (by first | rfl | with_reducible assumption) rfl ?_) | (refine arl_none rfl rfl (by simp +decide only [aop, abuiltin, aeval, aintBin, bin_int, aload_bump, SS, reduceIte, reduceCtorEq, f1, e1, f9, hlp, e2, f2, e3]; exact rfl) rfl rfl ?_) | (refine arl_off rfl rfl ?_) | (refine aw_condT (by simp +decide only [aop, abuiltin, aeval, aintBin, bin_int, aload_bump, SS, reduceIte, reduceCtorEq, f1, e1, f9, hlp, e2, f2, e3]; first | done | exact rfl) ?_) | (refine aw_condF (by simp +decide only [aop, abuiltin, aeval, aintBin, bin_int, aload_bump, SS, reduceIte, reduceCtorEq, f1, e1, f9, hlp, e2, f2, e3]; first | done | exact rfl) ?_))
    exact ⟨.inr rfl, _, rfl, rfl⟩
  have e3 : (mask == 0) = false := by simp [h2]
  obtain ⟨a, rfl⟩ : ∃ a : Nat, at_ = (a : Int) := ⟨at_.toNat, by omega⟩
  have hal : a < pl.length := by omega
  repeat (first | (refine aw_seq ?_) | (refine aw_reg0 (by simp only [SZ, Nat.reduceAdd]; exact rfl) ?_) | (refine aw_reg (by decide +kernel) (by simp only [SZ, Nat.reduceAdd]; exact rfl) ?_) | (refine aw_regS (by decide +kernel) (by simp only [SZ, Nat.reduceAdd]; exact rfl) ?_) | (refine arl_nil ?_) | (refine aw_skip ?_) | (refine aw_block ?_) | (refine aw_exit ?_) | (refine aw_ret ?_) | (refine arl_cons rfl rfl (by simp +decide only [aop, abuiltin, aeval, aintBin, bin_int, aload_bump, SS, reduceIte, reduceCtorEq, f1, e1, f9, hlp, e2, f2, e3]; exact rfl) (by first | rfl | with_reducible assumption) rfl ?_) | (refine arl_none rfl rfl (by simp +decide only [aop, abuiltin, aeval, aintBin, bin_int, aload_bump, SS, reduceIte, reduceCtorEq, f1, e1, f9, hlp, e2, f2, e3]; exact rfl) rfl rfl ?_) | (refine arl_off rfl rfl ?_) | (refine aw_condT (by simp +decide only [aop, abuiltin, aeval, aintBin, bin_int, aload_bump, SS, reduceIte, reduceCtorEq, f1, e1, f9, hlp, e2, f2, e3]; first | done | exact rfl) ?_) | (refine aw_condF (by simp +decide only [aop, abuiltin, aeval, aintBin, bin_int, aload_bump, SS, reduceIte, reduceCtorEq, f1, e1, f9, hlp, e2, f2, e3]; first | done | exact rfl) ?_))
  refine arl_call rfl rfl rfl rfl rfl rfl ((copy_ok (by repeat (first | assumption | (refine WF.bump ?_ _))) (hP15.rd.up (by repeat (first | exact Keeps.refl _ _ | (refine Keeps.bumpR ?_ _)))) (by omega)).wf (by repeat (first | assumption | (refine WF.bump ?_ _) | (refine WF.put ?_ (by simp only [n_bump, n_put, n_touch, n_kill] at *; omega) (by simp only [n_bump, n_put, n_touch, n_kill] at *; omega)))) |>.mono ?_)
  rintro cv s16 ⟨hw16, hn16, hE16, hcvs, hCp⟩
  refine ⟨by first | rfl | with_reducible assumption, ?_⟩
  replace hE16 : Ext s15 s16 := Keeps.trans (by repeat (first | assumption | exact Keeps.refl _ _ | (refine Keeps.bumpR ?_ _) | (refine Keeps.put ?_ (by assumption) (by simp only [n_bump, n_put, n_touch, n_kill] at *; omega)))) hE16
  have hN16 := hE16.n
  have hN15 := hT15.n
  have hN2 := hT2.n
  have hT16 := hT15.trans hE16
  replace hCp := hCp.lt hw16
  obtain ⟨ci, cg, rfl, hcg, hck⟩ : ∃ ci cg, cv = .sl ci 0 pl.length 1 ∧ s16.get ci = some ⟨pl.map u8, 5, true, cg⟩ ∧ s15.n ≤ cg ∧ cg < s16.n := by
    rcases hCp with ⟨h, _⟩ | ⟨ci, cg, h1, h2, h3⟩
    · rw [h] at hal; simp at hal
    · exact ⟨ci, cg, h1, h2, by have := h3.1; first | omega | (simp only [n_bump] at this; omega), h3.2⟩
  have hix : aindexAddr Tryd.prog 22 (.sl ci 0 pl.length 1) (i64 a) = some (.ptr ci a) := by
    rw [idx_sl uB sz5 ci 0 pl.length 1 .i64 a (by omega) (by omega)]
    simp
  have hld : aload Tryd.prog s16 5 (.ptr ci a) = some (u8 pl[a]) := load_at u5 rfl sz5 hcg (by
    rw [List.getElem?_map, List.getElem?_eq_getElem hal]
    rfl)
  obtain ⟨Y, hY⟩ : ∃ Y, bits .xor .u8 pl[a] mask = Y := ⟨_, rfl⟩
  have hpa := hPby _ (List.getElem_mem hal)
  have hYne : BitVec.ofInt 32 Y ≠ BitVec.ofInt 32 pl[a] := by
    rw [← hY]
    exact Cm.xor8_ne hpa.1 hpa.2 (by omega) hmk.2
  repeat (first | (refine aw_seq ?_) | (refine aw_reg0 (by simp only [SZ, Nat.reduceAdd]; exact rfl) ?_) | (refine aw_reg (by decide +kernel) (by simp only [SZ, Nat.reduceAdd]; exact rfl) ?_) | (refine aw_regS (by decide +kernel) (by simp only [SZ, Nat.reduceAdd]; exact rfl) ?_) | (refine arl_nil ?_) | (refine aw_skip ?_) | (refine aw_block ?_) | (refine aw_exit ?_) | (refine aw_ret ?_) | (refine arl_cons rfl rfl (by simp +decide only [aop, abuiltin, aeval, aintBin, bin_int, aload_bump, SS, reduceIte, reduceCtorEq, f1, f2, hix, hld, hY]; exact rfl) (by first | rfl | with_reducible assumption) rfl ?_) | (refine arl_none rfl rfl (by simp +decide only [aop, abuiltin, aeval, aintBin, bin_int, aload_bump, SS, reduceIte, reduceCtorEq, f1, f2, hix, hld, hY]; exact rfl) rfl rfl ?_) | (refine arl_off rfl rfl ?_) | (refine aw_condT (by simp +decide only [aop, abuiltin, aeval, aintBin, bin_int, aload_bump, SS, reduceIte, reduceCtorEq, f1, f2, hix, hld, hY]; first | done | exact rfl) ?_) | (refine aw_condF (by simp +decide only [aop, abuiltin, aeval, aintBin, bin_int, aload_bump, SS, reduceIte, reduceCtorEq, f1, f2, hix, hld, hY]; first | done | exact rfl) ?_))
  refine arl_storeX (off := a) (y := u8 Y) (e := 5) rfl rfl rfl rfl rfl hcg sz5 rfl rfl rfl (by simp; omega) ?_
  intro s17 hn17 hwf17 hK17 hg17 hD17
  rw [← List.map_set] at hg17
  have hw17 : WF s17 := hwf17 (by repeat (first | assumption | (refine WF.bump ?_ _)))
  replace hK17 : Keeps (fun g => g = cg) s16 s17 := Keeps.trans (Keeps.mono (G := fun _ => False) (show Ext s16 _ from (by repeat (first | exact Keeps.refl _ _ | (refine Keeps.bumpR ?_ _)))) (fun _ h => h.elim)) hK17
  have hTl : RdB s17 (fun g => g = cg) (.sl ci 0 pl.length 1) (pl.set a Y) := (show OwB s17 (fun g => g = cg) (.sl ci 0 pl.length 1) (pl.set a Y) from .inr ⟨ci, cg, by rw [List.length_set], hg17, rfl⟩).rd
  have hTab17 := (hT.up hT16).keep hK17 (by omega)
  have hP17 := ((hP15.up hE16).keep hK17 (fun g hg h => by have := hg.2; omega)).rd
  have hYr : 0 ≤ Y ∧ Y ≤ 255 := by
    rw [← hY]
    have : Go.bits .xor .u8 pl[a] mask = IntKind.u8.wrap ((BitVec.ofInt 8 pl[a] ^^^ BitVec.ofInt 8 mask).toNat : Int) := rfl
    rw [this, IntKind.wrap_u8]
    omega
  have hsby : ∀ x ∈ pl.set a Y, 0 ≤ x ∧ x ≤ 255 := fun x hx => by
    rcases List.mem_or_eq_of_mem_set hx with h | rfl
    · exact hPby x h
    · exact hYr
  have hlit := fun id => litR1 hTl id
  repeat (first | (refine aw_seq ?_) | (refine aw_reg0 (by simp only [SZ, Nat.reduceAdd]; exact rfl) ?_) | (refine aw_reg (by decide +kernel) (by simp only [SZ, Nat.reduceAdd]; exact rfl) ?_) | (refine aw_regS (by decide +kernel) (by simp only [SZ, Nat.reduceAdd]; exact rfl) ?_) | (refine arl_nil ?_) | (refine aw_skip ?_) | (refine aw_block ?_) | (refine aw_exit ?_) | (refine aw_ret ?_) | (refine arl_cons rfl rfl (by simp +decide only [aop, abuiltin, aeval, aintBin, bin_int, aload_bump, SS, reduceIte, reduceCtorEq, hlit]; exact rfl) (by first | rfl | with_reducible assumption) rfl ?_) | (refine arl_none rfl rfl (by simp +decide only [aop, abuiltin, aeval, aintBin, bin_int, aload_bump, SS, reduceIte, reduceCtorEq, hlit]; exact rfl) rfl rfl ?_) | (refine arl_off rfl rfl ?_) | (refine aw_condT (by simp +decide only [aop, abuiltin, aeval, aintBin, bin_int, aload_bump, SS, reduceIte, reduceCtorEq, hlit]; first | done | exact rfl) ?_) | (refine aw_condF (by simp +decide only [aop, abuiltin, aeval, aintBin, bin_int, aload_bump, SS, reduceIte, reduceCtorEq, hlit]; first | done | exact rfl) ?_))
  refine arl_call rfl rfl rfl rfl rfl rfl ((sum_ok (K := fun _ => True) (ps := [pl.set a Y]) (by repeat (first | assumption | (refine WF.bump ?_ _) | (refine WF.put ?_ (by simp only [n_bump, n_put, n_touch, n_kill] at *; omega) (by simp only [n_bump, n_put, n_touch, n_kill] at *; omega)))) ?hT1 ?hR1 ?hl1 ?hl2 ?hb1).dead.wf (by repeat (first | assumption | (refine WF.bump ?_ _) | (refine WF.put ?_ (by simp only [n_bump, n_put, n_touch, n_kill] at *; omega) (by simp only [n_bump, n_put, n_touch, n_kill] at *; omega)))) |>.mono ?_)
  case hT1 => exact hTab17.up (by repeat (first | assumption | exact Keeps.refl _ _ | (refine Keeps.bumpR ?_ _) | (refine Keeps.put ?_ (by assumption) (by simp only [n_bump, n_put, n_touch, n_kill] at *; omega))))
  case hR1 => exact RdL.one ⟨_, rfl, (hTl.mono (fun _ _ => trivial)).up (by repeat (first | assumption | exact Keeps.refl _ _ | (refine Keeps.bumpR ?_ _) | (refine Keeps.put ?_ (by assumption) (by simp only [n_bump, n_put, n_touch, n_kill] at *; omega))))⟩ rfl _ trivial _
  case hl1 => simp
  case hl2 =>
    intro p hp
    rw [List.mem_singleton.1 hp, List.length_set]
    omega
  case hb1 =>
    intro p hp
    rw [List.mem_singleton.1 hp]
    exact hsby
  rintro r s18 ⟨hw18, hn18, hd18, hE18, rfl⟩
  refine ⟨rfl, ?_⟩
  replace hE18 : Ext s17 s18 := Keeps.trans (by repeat (first | assumption | exact Keeps.refl _ _ | (refine Keeps.bumpR ?_ _) | (refine Keeps.put ?_ (by assumption) (by simp only [n_bump, n_put, n_touch, n_kill] at *; omega)))) hE18
  have hP18 := hP17.up hE18
  have hlit2 := fun id => litR1 hP18 id
  simp only [n_bump, n_put] at hn18
  have hput : ∀ o : AObj, Ext s18 (s18.put (s17.n + (0 + 1 + 1 + 1 + 1)) o) := fun o => Keeps.putF (Keeps.refl _ _) (hd18 _ (by first | omega | (simp only [n_bump, n_put]; omega) | (simp only [n_bump, n_put] at *; omega)) ((get_put_ne _ (by first | omega | (simp only [n_bump, n_put]; omega) | (simp only [n_bump, n_put] at *; omega))).trans (fresh hw17 (by first | omega | (simp only [n_bump, n_put]; omega) | (simp only [n_bump, n_put] at *; omega)))))
  repeat (first | (refine aw_seq ?_) | (refine aw_reg0 (by simp only [SZ, Nat.reduceAdd]; exact rfl) ?_) | (refine aw_reg (by decide +kernel) (by simp only [SZ, Nat.reduceAdd]; exact rfl) ?_) | (refine aw_regS (by decide +kernel) (by simp only [SZ, Nat.reduceAdd]; exact rfl) ?_) | (refine arl_nil ?_) | (refine aw_skip ?_) | (refine aw_block ?_) | (refine aw_exit ?_) | (refine aw_ret ?_) | (refine arl_cons rfl rfl (by simp +decide only [aop, abuiltin, aeval, aintBin, bin_int, aload_bump, SS, reduceIte, reduceCtorEq, f9, hlit2]; exact rfl) (by first | rfl | with_reducible assumption) rfl ?_) | (refine arl_none rfl rfl (by simp +decide only [aop, abuiltin, aeval, aintBin, bin_int, aload_bump, SS, reduceIte, reduceCtorEq, f9, hlit2]; exact rfl) rfl rfl ?_) | (refine arl_off rfl rfl ?_) | (refine aw_condT (by simp +decide only [aop, abuiltin, aeval, aintBin, bin_int, aload_bump, SS, reduceIte, reduceCtorEq, f9, hlit2]; first | done | exact rfl) ?_) | (refine aw_condF (by simp +decide only [aop, abuiltin, aeval, aintBin, bin_int, aload_bump, SS, reduceIte, reduceCtorEq, f9, hlit2]; first | done | exact rfl) ?_))
  refine arl_call rfl rfl rfl rfl rfl rfl ((sum_ok (K := fun _ => True) (ps := [pl]) (by repeat (first | assumption | (refine WF.bump ?_ _) | (refine WF.put ?_ (by simp only [n_bump, n_put, n_touch, n_kill] at *; omega) (by simp only [n_bump, n_put, n_touch, n_kill] at *; omega)))) ?hT1 ?hR1 ?hl1 ?hl2 ?hb1).wf (by repeat (first | assumption | (refine WF.bump ?_ _) | (refine WF.put ?_ (by simp only [n_bump, n_put, n_touch, n_kill] at *; omega) (by simp only [n_bump, n_put, n_touch, n_kill] at *; omega)))) |>.mono ?_)
  case hT1 => exact (hTab17.up hE18).up (hput _)
  case hR1 => exact RdL.one ⟨_, rfl, (hP18.mono (fun _ _ => trivial)).up (hput _)⟩ rfl _ trivial _
  case hl1 => simp
  case hl2 =>
    intro p hp
    rw [List.mem_singleton.1 hp]
    omega
  case hb1 =>
    intro p hp
    rw [List.mem_singleton.1 hp]
    exact hPby
  rintro r s19 ⟨hw19, hn19, hE19, rfl⟩
  refine ⟨rfl, ?_⟩
  have hne : (Cm.num (Cm.crc ([pl.set a Y] : List (List Int)).flatten) != Cm.num (Cm.crc ([pl] : List (List Int)).flatten)) = true := by
    rw [bne_iff_ne]
    simp only [List.flatten_cons, List.flatten_nil, List.append_nil]
    exact fun h => Cm.crc_set hal hYne (Cm.num_inj h)
  repeat (first | (refine aw_seq ?_) | (refine aw_reg0 (by simp only [SZ, Nat.reduceAdd]; exact rfl) ?_) | (refine aw_reg (by decide +kernel) (by simp only [SZ, Nat.reduceAdd]; exact rfl) ?_) | (refine aw_regS (by decide +kernel) (by simp only [SZ, Nat.reduceAdd]; exact rfl) ?_) | (refine arl_nil ?_) | (refine aw_skip ?_) | (refine aw_block ?_) | (refine aw_exit ?_) | (refine aw_ret ?_) | (refine arl_cons rfl rfl (by simp +decide only [aop, abuiltin, aeval, aintBin, bin_int, aload_bump, SS, reduceIte, reduceCtorEq, hne]; exact rfl) (by first | rfl | with_reducible assumption) rfl ?_) | (refine arl_none rfl rfl (by simp +decide only [aop, abuiltin, aeval, aintBin, bin_int, aload_bump, SS, reduceIte, reduceCtorEq, hne]; exact rfl) rfl rfl ?_) | (refine arl_off rfl rfl ?_) | (refine aw_condT (by simp +decide only [aop, abuiltin, aeval, aintBin, bin_int, aload_bump, SS, reduceIte, reduceCtorEq, hne]; first | done | exact rfl) ?_) | (refine aw_condF (by simp +decide only [aop, abuiltin, aeval, aintBin, bin_int, aload_bump, SS, reduceIte, reduceCtorEq, hne]; first | done | exact rfl) ?_))
  exact ⟨.inr rfl, _, rfl, rfl⟩
theorem WholeBlocks_small {st : St} (hw : WF st) (hT : TabA st) {v : AV} {b : List Int} (h : RdL st (fun _ => True) 1 (fun cs n => cs = [.pl (.int .u8 n)]) v b) (g : ∀ x ∈ b, (Lit.int .u8 x).wf = true) (at_ : Int) (g2 : (Lit.int .i64 at_).wf = true) (mask : Int) (g3 : (Lit.int .u8 mask).wf = true) (hb : (b.map fun _ => 1).sum + 1 + (1 + 1) ≤ 1048576) :
    ACalls Tryd.prog 3 [v, i64 at_, u8 mask] st (fun r s => r = .pl (.bool true)) := by
  rw [sum_1] at hb
  exact blocks_ok hw hT at_ mask (RdL.bytes h) (by omega) (fun x hx => by have := wfu8 (g x hx); omega) (by have := wfu8 g3; omega) (wfi64 g2)
end Go.Proofs.YthjfncppiffnmaaDoor.Ra
