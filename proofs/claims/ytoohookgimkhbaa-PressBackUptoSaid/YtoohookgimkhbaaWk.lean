/- leatlaw06.PressBack. -/
import Derived.Test.YtoohookgimkhbaaWi
import Derived.Test.YtoohookgimkhbaaWq
import Derived.Test.YtoohookgimkhbaaPc
namespace Go.Proofs.Ytoohookgimkhbaa.Ra
open Go Go.RowKit Pn Vn
set_option linter.unusedVariables false
set_option linter.unusedSimpArgs false
set_option maxRecDepth 10000
theorem unpack_of {n : Nat} (hn : n ≤ 32768) (r : List Int) (most : Int) : unpack (vput n ++ r) most = if (n : Int) > max most 0 then (4, []) else if (expd n r.length r []).1 = 4 ∨ ((expd n r.length r []).1 = 0 ∧ ((expd n r.length r []).2.length : Int) < n) then (60, []) else if (expd n r.length r []).1 ≠ 0 then ((expd n r.length r []).1, []) else (0, (expd n r.length r []).2) := by
  unfold unpack
  rw [getS_vput hn r]
  simp only [zag_zig, Int.toNat_natCast, List.drop_left]
  rw [if_neg (by simp), if_neg (by omega)]
  by_cases h : (n : Int) > max most 0
  · rw [if_pos h, if_pos (.inl h)]
  · rw [if_neg h, if_neg (by omega)]
theorem byte_lt {b : List Int} (hby : byts b) : ∀ x ∈ b, 0 ≤ x ∧ x < 256 := fun x hx => by have := hby x hx; omega
theorem gtok_run (b : List Int) (hl : b.length ≤ 32768) : run b.length (gtok b 8) [] = (0, b) := by
  obtain ⟨p, hp⟩ := lo_gtok b 8
  have := lo_run b 8 b.length hp (by rw [bnd_in (by omega) (by omega)]; exact Int.le_refl _)
  rw [List.take_length] at this
  exact this
theorem gtok_bytes (b : List Int) (hby : byts b) : ∀ t ∈ gtok b 8, ∀ x ∈ t.1, 0 ≤ x ∧ x < 256 := by
  obtain ⟨p, hp⟩ := lo_gtok b 8
  exact fun t ht x hx => byte_lt hby x (lo_bytes hp t ht x hx)
theorem back_all (b : List Int) (hl : b.length ≤ 32768) (hby : byts b) : expd b.length (encs (gtok b 8)).length (encs (gtok b 8)) [] = (0, b) := by
  have := expd_encs b.length [] (by simp) (gtok b 8) [] (gtok_fine b 8) (gtok_bytes b hby) (by rw [gtok_run b hl])
  rw [List.append_nil, gtok_run b hl] at this
  exact this
theorem one_short {r : List Int} (h : r ≠ []) (h1 : (r.getD 0 0 < 128 ∧ (r.length : Int) < r.getD 0 0 + 2) ∨ (128 ≤ r.getD 0 0 ∧ r.length < 3)) : (one r).1 = 1 := by
  unfold one
  rcases h1 with ⟨h1, h2⟩ | ⟨h1, h2⟩
  · rw [if_pos h1, if_pos h2]
  · rw [if_neg (by omega), if_pos h2]
theorem expd_short (m : Int) {r out : List Int} (h : r ≠ []) (h1 : (one r).1 = 1) : expd m r.length r out = (1, []) := by
  cases hr : r with
  | nil => exact absurd hr h
  | cons x t =>
    rw [← hr]
    have hl : r.length = t.length + 1 := by rw [hr]; rfl
    rw [hl, expd, if_neg h, if_pos (by rw [h1]; decide), h1]
theorem back_long (b : List Int) (hl : b.length ≤ 32768) (hby : byts b) (more : Int) (h0 : 0 ≤ more ∧ more < 256) : expd b.length (encs (gtok b 8) ++ [more]).length (encs (gtok b 8) ++ [more]) [] = (1, []) := by
  rw [expd_encs b.length [more] (by simpa using h0) (gtok b 8) [] (gtok_fine b 8) (gtok_bytes b hby) (by rw [gtok_run b hl])]
  refine expd_short _ (by simp) (one_short (by simp) ?_)
  by_cases h : more < 128
  · exact .inl ⟨h, by simp; omega⟩
  · exact .inr ⟨by simpa using h, by simp⟩
theorem lo_last {b : List Int} {d : Int} {ts : List Tok} {at_ : Nat} {p : Option Nat} (h : LO b d ts at_ p) (h0 : 0 < at_) : ∃ ts' t at' p', ts = ts' ++ [t] ∧ LO b d ts' at' p' ∧ at' ≤ at_ ∧ ((∃ l, t = (l, 0, 0) ∧ 1 ≤ l.length ∧ l.length ≤ 128) ∨ ∃ dist n : Nat, t = ([], (dist : Int), (n : Int)) ∧ 1 ≤ dist ∧ 4 ≤ n ∧ n ≤ 131) := by
  cases h with
  | nil => omega
  | @lit ts' at' p' l h h1 h2 h3 h4 h5 => exact ⟨ts', _, at', p', rfl, h, by omega, .inl ⟨l, rfl, h1, h2⟩⟩
  | @cop ts' at' p' dist n h h1 h2 h3 h4 h5 h6 h7 h8 h9 => exact ⟨ts', _, at', p', rfl, h, by omega, .inr ⟨dist, n, rfl, h1, h4, h5⟩⟩
theorem back_cut (b : List Int) (hl : b.length ≤ 32768) (hby : byts b) (h0 : 0 < b.length) : ∃ r, (encs (gtok b 8)).take ((encs (gtok b 8)).length - 1) = r ∧ expd b.length r.length r [] = (1, []) ∧ 1 ≤ (encs (gtok b 8)).length := by
  obtain ⟨p, hp⟩ := lo_gtok b 8
  have hfine := gtok_fine b 8
  have hbys := gtok_bytes b hby
  obtain ⟨ts', t, at', p', he, hlo, hat, ht⟩ := lo_last hp h0
  rw [he] at hfine hbys ⊢
  have hrun := lo_run b 8 b.length hlo (by rw [bnd_in (by omega) (by omega)]; omega)
  have hel : 2 ≤ (enc t).length := by
    rcases ht with ⟨l, rfl, h1, h2⟩ | ⟨dist, n, rfl, h1, h2, h3⟩
    · rw [enc_lit]; omega
    · rw [enc_cop h1]; omega
  rw [encs_app, encs_one]
  have hlen : (encs ts' ++ enc t).length = (encs ts').length + (enc t).length := List.length_append
  have htk : (encs ts' ++ enc t).take ((encs ts' ++ enc t).length - 1) = encs ts' ++ (enc t).take ((enc t).length - 1) := by
    rw [hlen, List.take_append, List.take_of_length_le (by omega)]
    congr 2
    omega
  have htb : ∀ x ∈ enc t, 0 ≤ x ∧ x < 256 := enc_by (by rw [hfine t (by simp)]; simp) (hbys t (by simp))
  refine ⟨_, rfl, ?_, by omega⟩
  rw [htk, expd_encs b.length _ (fun x hx => htb x (List.mem_of_mem_take hx)) ts' [] (fun t ht => hfine t (by simp [ht])) (fun t ht => hbys t (by simp [ht])) (by rw [hrun])]
  have htl : ((enc t).take ((enc t).length - 1)).length = (enc t).length - 1 := by rw [List.length_take]; omega
  have hne : (enc t).take ((enc t).length - 1) ≠ [] := fun e => by rw [e] at htl; simp at htl; omega
  have hg : ((enc t).take ((enc t).length - 1)).getD 0 0 = (enc t).getD 0 0 := by
    simp only [List.getD_eq_getElem?_getD, List.getElem?_take]
    rw [if_pos (by omega)]
  refine expd_short _ hne (one_short hne ?_)
  rw [htl, hg]
  rcases ht with ⟨l, rfl, h1, h2⟩ | ⟨dist, n, rfl, h1, h2, h3⟩
  · have e : (enc (l, 0, 0)).getD 0 0 = (l.length : Int) - 1 := by
      unfold enc; rw [cop_lit]; rfl
    rw [e, enc_lit]
    exact .inl ⟨by omega, by omega⟩
  · have e : (enc ([], (dist : Int), (n : Int))).getD 0 0 = 124 + n := by
      have hc : cop ([], (dist : Int), (n : Int)) = true := by
        simp only [cop, decide_eq_true_eq]
        omega
      unfold enc; rw [hc]; rfl
    rw [e, enc_cop h1]
    exact .inr ⟨by omega, by omega⟩
theorem unpack_bad {p : List Int} {most : Int} (h : (getS 10 1 p 0).2.2 = 1) : unpack p most = (1, []) := by
  unfold unpack
  rw [if_pos (by rw [h]; decide), h]
/-- The three blocks. -/
theorem unp_full (b : List Int) (hl : b.length ≤ 32768) (hby : byts b) (most : Int) : unpack (pack b).2 most = if most ≥ b.length ∨ b.length = 0 then (0, b) else (4, []) := by
  unfold pack
  rw [if_neg (by omega)]
  simp only
  rw [unpack_of hl, back_all b hl hby]
  by_cases h : most ≥ b.length ∨ b.length = 0
  · rw [if_pos h, if_neg (by omega), if_neg (by simp), if_neg (by simp)]
  · rw [if_neg h, if_pos (by omega)]
theorem unp_long (b : List Int) (hl : b.length ≤ 32768) (hby : byts b) (more : Int) (h0 : 0 ≤ more ∧ more < 256) : unpack ((pack b).2 ++ [more]) b.length = (1, []) := by
  unfold pack
  rw [if_neg (by omega)]
  simp only [List.append_assoc]
  rw [unpack_of hl, back_long b hl hby more h0, if_neg (by omega), if_neg (by simp), if_pos (by simp)]
theorem unp_cut (b : List Int) (hl : b.length ≤ 32768) (hby : byts b) : unpack ((pack b).2.take ((pack b).2.length - 1)) b.length = (1, []) := by
  unfold pack
  rw [if_neg (by omega)]
  simp only
  have hv := vput_nat_len (n := b.length) hl
  by_cases h0 : 0 < b.length
  · obtain ⟨r, hr, he, h1⟩ := back_cut b hl hby h0
    have e : (vput b.length ++ encs (gtok b 8)).take ((vput b.length ++ encs (gtok b 8)).length - 1) = vput b.length ++ r := by
      rw [List.length_append, List.take_append, List.take_of_length_le (by omega), ← hr]
      congr 2
      omega
    rw [e, unpack_of hl, he, if_neg (by omega), if_neg (by simp), if_pos (by simp)]
  · obtain rfl : b = [] := List.eq_nil_of_length_eq_zero (by omega)
    have e : vput (([] : List Int).length : Nat) = [0] := by
      show dig 0 = [0]
      rw [dig_small (by decide)]
      rfl
    have e2 : encs (gtok [] 8) = [] := by decide +kernel
    rw [e, e2]
    exact unpack_bad (by decide +kernel)
theorem pack_pos (b : List Int) (hl : b.length ≤ 32768) : 1 ≤ (pack b).2.length := by
  unfold pack
  rw [if_neg (by omega)]
  have := (vput_nat_len (n := b.length) hl).1
  simp only [List.length_append]
  omega
theorem pack_bytes (b : List Int) (hl : b.length ≤ 32768) (hby : byts b) : byts (pack b).2 := by
  unfold pack
  rw [if_neg (by omega)]
  refine bytes_append (vput_byts (fit_nat (by omega))) fun x hx => ?_
  unfold encs at hx
  obtain ⟨l, hl, hx⟩ := List.mem_flatten.1 hx
  obtain ⟨t, ht, rfl⟩ := List.mem_map.1 hl
  have := enc_by (by rw [gtok_fine b 8 t ht]; simp) (gtok_bytes b hby t ht) x hx
  omega
set_option maxHeartbeats 4000000 in
theorem pback_ok {st : St} (hw : WF st) {v : AV} {b : List Int} (most more : Int) (hb : RdB st (fun _ => True) v b) (hbl : b.length ≤ 1048576) (hby : byts b) (hmo : 0 ≤ more ∧ more < 256) :
    ACalls Try.prog 6 [v, i64 most, u8 more] st (fun r s => r = .pl (.bool true)) := by
  replace hb := hb.lt hw
  have hvs := hb.solid
  have hln := hb.len
  have hpl := pack_len b
  refine acalls_of Try.func6 rfl (by kernel_rfl) (by simp [hvs]; exact ⟨rfl, rfl⟩) ?_
  repeat (first | (refine aw_seq ?_) | (refine aw_reg0 (by simp only [SZ, Nat.reduceAdd]; exact rfl) ?_) | (refine aw_reg (by decide +kernel) (by simp only [SZ, Nat.reduceAdd]; exact rfl) ?_) | (refine aw_regS (by decide +kernel) (by simp only [SZ, Nat.reduceAdd]; exact rfl) ?_) | (refine arl_nil ?_) | (refine aw_skip ?_) | (refine aw_block ?_) | (refine aw_exit ?_) | (refine aw_ret ?_) | (refine arl_cons rfl rfl (by simp +decide only [aop, abuiltin, aeval, aintBin, bin_int, aload_bump, SS, reduceIte, reduceCtorEq]; exact rfl) (by first | rfl | with_reducible assumption) rfl ?_) | (refine arl_none rfl rfl (by simp +decide only [aop, abuiltin, aeval, aintBin, bin_int, aload_bump, SS, reduceIte, reduceCtorEq]; exact rfl) rfl rfl ?_) | (refine arl_off rfl rfl ?_) | (refine aw_condT (by simp +decide only [aop, abuiltin, aeval, aintBin, bin_int, aload_bump, SS, reduceIte, reduceCtorEq]; first | done | exact rfl) ?_) | (refine aw_condF (by simp +decide only [aop, abuiltin, aeval, aintBin, bin_int, aload_bump, SS, reduceIte, reduceCtorEq]; first | done | exact rfl) ?_))
  refine arl_call rfl rfl rfl rfl rfl rfl ((palive_ok (by repeat (first | assumption | (refine WF.bump ?_ _)))).wf (by repeat (first | assumption | (refine WF.bump ?_ _) | (refine WF.put ?_ (by simp only [n_bump, n_put, n_touch, n_kill] at *; omega) (by simp only [n_bump, n_put, n_touch, n_kill] at *; omega)))) |>.mono ?_)
  rintro r s1 ⟨hw1, hn1, hE1, rfl⟩
  refine ⟨by first | rfl | with_reducible assumption, ?_⟩
  replace hE1 : Ext st s1 := Keeps.trans (by repeat (first | assumption | exact Keeps.refl _ _ | (refine Keeps.bumpR ?_ _) | (refine Keeps.put ?_ (by assumption) (by simp only [n_bump, n_put, n_touch, n_kill] at *; omega)))) hE1
  have hN1 := hE1.n
  repeat (first | (refine aw_seq ?_) | (refine aw_reg0 (by simp only [SZ, Nat.reduceAdd]; exact rfl) ?_) | (refine aw_reg (by decide +kernel) (by simp only [SZ, Nat.reduceAdd]; exact rfl) ?_) | (refine aw_regS (by decide +kernel) (by simp only [SZ, Nat.reduceAdd]; exact rfl) ?_) | (refine arl_nil ?_) | (refine aw_skip ?_) | (refine aw_block ?_) | (refine aw_exit ?_) | (refine aw_ret ?_) | (refine arl_cons rfl rfl (by simp +decide only [aop, abuiltin, aeval, aintBin, bin_int, aload_bump, SS, reduceIte, reduceCtorEq]; exact rfl) (by first | rfl | with_reducible assumption) rfl ?_) | (refine arl_none rfl rfl (by simp +decide only [aop, abuiltin, aeval, aintBin, bin_int, aload_bump, SS, reduceIte, reduceCtorEq]; exact rfl) rfl rfl ?_) | (refine arl_off rfl rfl ?_) | (refine aw_condT (by simp +decide only [aop, abuiltin, aeval, aintBin, bin_int, aload_bump, SS, reduceIte, reduceCtorEq]; first | done | exact rfl) ?_) | (refine aw_condF (by simp +decide only [aop, abuiltin, aeval, aintBin, bin_int, aload_bump, SS, reduceIte, reduceCtorEq]; first | done | exact rfl) ?_))
  refine arl_call rfl rfl rfl rfl rfl rfl ((pack_ok (by repeat (first | assumption | (refine WF.bump ?_ _))) ((hb.up hE1).up (by repeat (first | exact Keeps.refl _ _ | (refine Keeps.bumpR ?_ _)))) (by omega)).wf (by repeat (first | assumption | (refine WF.bump ?_ _) | (refine WF.put ?_ (by simp only [n_bump, n_put, n_touch, n_kill] at *; omega) (by simp only [n_bump, n_put, n_touch, n_kill] at *; omega)))) |>.mono ?_)
  rintro r s2 ⟨hw2, hn2, hE2, p, rfl, hps, hP⟩
  refine ⟨by first | rfl | with_reducible assumption, ?_⟩
  replace hE2 : Ext s1 s2 := Keeps.trans (by repeat (first | assumption | exact Keeps.refl _ _ | (refine Keeps.bumpR ?_ _) | (refine Keeps.put ?_ (by assumption) (by simp only [n_bump, n_put, n_touch, n_kill] at *; omega)))) hE2
  have hN2 := hE2.n
  replace hP := hP.lt hw2
  have hS2 := hE1.trans hE2
  by_cases hbig : 32768 < b.length
  · have e : pack b = (4, []) := by unfold pack; rw [if_pos hbig]
    rw [e] at hP ⊢
    have hlp := hP.rd.len
    have d1 : decide ((b.length : Int) > 32768) = true := decide_eq_true (by omega)
    have q1 : ((4 : Int) == 4) = true := by decide
    have q2 : ((([] : List Int).length : Int) == 0) = true := by decide
    repeat (first | (refine aw_seq ?_) | (refine aw_reg0 (by simp only [SZ, Nat.reduceAdd]; exact rfl) ?_) | (refine aw_reg (by decide +kernel) (by simp only [SZ, Nat.reduceAdd]; exact rfl) ?_) | (refine aw_regS (by decide +kernel) (by simp only [SZ, Nat.reduceAdd]; exact rfl) ?_) | (refine arl_nil ?_) | (refine aw_skip ?_) | (refine aw_block ?_) | (refine aw_exit ?_) | (refine aw_ret ?_) | (refine arl_cons rfl rfl (by simp +decide only [aop, abuiltin, aeval, aintBin, bin_int, aload_bump, SS, reduceIte, reduceCtorEq, hln, d1, q1, hlp, q2]; exact rfl) (by first | rfl | with_reducible assumption) rfl ?_) | (refine arl_none rfl rfl (by simp +decide only [aop, abuiltin, aeval, aintBin, bin_int, aload_bump, SS, reduceIte, reduceCtorEq, hln, d1, q1, hlp, q2]; exact rfl) rfl rfl ?_) | (refine arl_off rfl rfl ?_) | (refine aw_condT (by simp +decide only [aop, abuiltin, aeval, aintBin, bin_int, aload_bump, SS, reduceIte, reduceCtorEq, hln, d1, q1, hlp, q2]; first | done | exact rfl) ?_) | (refine aw_condF (by simp +decide only [aop, abuiltin, aeval, aintBin, bin_int, aload_bump, SS, reduceIte, reduceCtorEq, hln, d1, q1, hlp, q2]; first | done | exact rfl) ?_))
    exact ⟨.inr rfl, _, rfl, rfl⟩
  · have e1 : (pack b).1 = 0 := by unfold pack; rw [if_neg hbig]
    have hfull := unp_full b (by omega) hby most
    have hlong := unp_long b (by omega) hby more hmo
    have hcut := unp_cut b (by omega) hby
    have hpos := pack_pos b (by omega)
    have hpby := pack_bytes b (by omega) hby
    rw [e1]
    obtain ⟨q, hq⟩ : ∃ q, (pack b).2 = q := ⟨_, rfl⟩
    rw [hq] at hfull hlong hcut hpos hpby hpl hP
    have hlp := hP.rd.len
    have d1 : decide ((b.length : Int) > 32768) = false := decide_eq_false (by omega)
    have q1 : ((0 : Int) != 0) = false := by decide
    have q0 : ((0 : Int) == 0) = true := by decide
    have q2 : ((q.length : Int) == 0) = false := by rw [beq_eq_false_iff_ne]; omega
    repeat (first | (refine aw_seq ?_) | (refine aw_reg0 (by simp only [SZ, Nat.reduceAdd]; exact rfl) ?_) | (refine aw_reg (by decide +kernel) (by simp only [SZ, Nat.reduceAdd]; exact rfl) ?_) | (refine aw_regS (by decide +kernel) (by simp only [SZ, Nat.reduceAdd]; exact rfl) ?_) | (refine arl_nil ?_) | (refine aw_skip ?_) | (refine aw_block ?_) | (refine aw_exit ?_) | (refine aw_ret ?_) | (refine arl_cons rfl rfl (by simp +decide only [aop, abuiltin, aeval, aintBin, bin_int, aload_bump, SS, reduceIte, reduceCtorEq, hln, d1, q1, hlp, q2]; exact rfl) (by first | rfl | with_reducible assumption) rfl ?_) | (refine arl_none rfl rfl (by simp +decide only [aop, abuiltin, aeval, aintBin, bin_int, aload_bump, SS, reduceIte, reduceCtorEq, hln, d1, q1, hlp, q2]; exact rfl) rfl rfl ?_) | (refine arl_off rfl rfl ?_) | (refine aw_condT (by simp +decide only [aop, abuiltin, aeval, aintBin, bin_int, aload_bump, SS, reduceIte, reduceCtorEq, hln, d1, q1, hlp, q2]; first | done | exact rfl) ?_) | (refine aw_condF (by simp +decide only [aop, abuiltin, aeval, aintBin, bin_int, aload_bump, SS, reduceIte, reduceCtorEq, hln, d1, q1, hlp, q2]; first | done | exact rfl) ?_))
    refine arl_call rfl rfl rfl rfl rfl rfl ((unpack_ok (by repeat (first | assumption | (refine WF.bump ?_ _))) most (hP.rd.up (by repeat (first | exact Keeps.refl _ _ | (refine Keeps.bumpR ?_ _)))) (by omega) hpby).wf (by repeat (first | assumption | (refine WF.bump ?_ _) | (refine WF.put ?_ (by simp only [n_bump, n_put, n_touch, n_kill] at *; omega) (by simp only [n_bump, n_put, n_touch, n_kill] at *; omega)))) |>.mono ?_)
    rintro r s3 ⟨hw3, hn3, hE3, u, rfl, hus, hU⟩
    refine ⟨by first | rfl | with_reducible assumption, ?_⟩
    replace hE3 : Ext s2 s3 := Keeps.trans (by repeat (first | assumption | exact Keeps.refl _ _ | (refine Keeps.bumpR ?_ _) | (refine Keeps.put ?_ (by assumption) (by simp only [n_bump, n_put, n_touch, n_kill] at *; omega)))) hE3
    have hN3 := hE3.n
    rw [hfull] at hU ⊢
    have hS3 := hS2.trans hE3
    have hmo' : ∀ x ∈ q ++ [more], 0 ≤ x ∧ x ≤ 255 := fun x hx => by
      rcases List.mem_append.1 hx with hx | hx
      · exact hpby x hx
      · rw [List.mem_singleton] at hx; subst hx; omega
    have hP3 := hP.up hE3
    have hlq : IntKind.i64.wrap ((q.length : Int) - 1) = (q.length : Int) - 1 := wrap64_of (by omega) (by omega)
    have hz : (([] : List Int).length : Int) = 0 := rfl
    have qn : ((1 : Int) != 0) = true := by decide
    have qz : ((([] : List Int).length : Int) == 0) = true := by decide
    have qzn : ((([] : List Int).length : Int) != 0) = false := by decide
    by_cases hm : most ≥ b.length ∨ b.length = 0
    · rw [if_pos hm] at hU ⊢
      simp only at hU ⊢
      have hD : decide (most ≥ (b.length : Int)) = true ∨ (decide (most ≥ (b.length : Int)) = false ∧ ((b.length : Int) == 0) = true) := by
        by_cases h1 : most ≥ b.length
        · exact .inl (decide_eq_true h1)
        · exact .inr ⟨decide_eq_false h1, by have := hm.resolve_left h1; simp [this]⟩
      rcases hD with d2 | ⟨d2, d3⟩
      · repeat (first | (refine aw_seq ?_) | (refine aw_reg0 (by simp only [SZ, Nat.reduceAdd]; exact rfl) ?_) | (refine aw_reg (by decide +kernel) (by simp only [SZ, Nat.reduceAdd]; exact rfl) ?_) | (refine aw_regS (by decide +kernel) (by simp only [SZ, Nat.reduceAdd]; exact rfl) ?_) | (refine arl_nil ?_) | (refine aw_skip ?_) | (refine aw_block ?_) | (refine aw_exit ?_) | (refine aw_ret ?_) | (refine arl_cons rfl rfl (by simp +decide only [aop, abuiltin, aeval, aintBin, bin_int, aload_bump, SS, reduceIte, reduceCtorEq, hln, d2, q1]; exact rfl) (by first | rfl | with_reducible assumption) rfl ?_) | (refine arl_none rfl rfl (by simp +decide only [aop, abuiltin, aeval, aintBin, bin_int, aload_bump, SS, reduceIte, reduceCtorEq, hln, d2, q1]; exact rfl) rfl rfl ?_) | (refine arl_off rfl rfl ?_) | (refine aw_condT (by simp +decide only [aop, abuiltin, aeval, aintBin, bin_int, aload_bump, SS, reduceIte, reduceCtorEq, hln, d2, q1]; first | done | exact rfl) ?_) | (refine aw_condF (by simp +decide only [aop, abuiltin, aeval, aintBin, bin_int, aload_bump, SS, reduceIte, reduceCtorEq, hln, d2, q1]; first | done | exact rfl) ?_))
        refine arl_call rfl rfl rfl rfl rfl rfl ((same_self (by repeat (first | assumption | (refine WF.bump ?_ _))) (hU.rd.up (by repeat (first | exact Keeps.refl _ _ | (refine Keeps.bumpR ?_ _)))) ((hb.up hS3).up (by repeat (first | exact Keeps.refl _ _ | (refine Keeps.bumpR ?_ _)))) (by omega)).wf (by repeat (first | assumption | (refine WF.bump ?_ _) | (refine WF.put ?_ (by simp only [n_bump, n_put, n_touch, n_kill] at *; omega) (by simp only [n_bump, n_put, n_touch, n_kill] at *; omega)))) |>.mono ?_)
        rintro r s4 ⟨hw4, hn4, hE4, rfl⟩
        refine ⟨by first | rfl | with_reducible assumption, ?_⟩
        replace hE4 : Ext s3 s4 := Keeps.trans (by repeat (first | assumption | exact Keeps.refl _ _ | (refine Keeps.bumpR ?_ _) | (refine Keeps.put ?_ (by assumption) (by simp only [n_bump, n_put, n_touch, n_kill] at *; omega)))) hE4
        have hN4 := hE4.n
        have hP4 := hP3.up hE4
        repeat (first | (refine aw_seq ?_) | (refine aw_reg0 (by simp only [SZ, Nat.reduceAdd]; exact rfl) ?_) | (refine aw_reg (by decide +kernel) (by simp only [SZ, Nat.reduceAdd]; exact rfl) ?_) | (refine aw_regS (by decide +kernel) (by simp only [SZ, Nat.reduceAdd]; exact rfl) ?_) | (refine arl_nil ?_) | (refine aw_skip ?_) | (refine aw_block ?_) | (refine aw_exit ?_) | (refine aw_ret ?_) | (refine arl_cons rfl rfl (by simp +decide only [aop, abuiltin, aeval, aintBin, bin_int, aload_bump, SS, reduceIte, reduceCtorEq, lit1]; exact rfl) (by first | rfl | with_reducible assumption) rfl ?_) | (refine arl_none rfl rfl (by simp +decide only [aop, abuiltin, aeval, aintBin, bin_int, aload_bump, SS, reduceIte, reduceCtorEq, lit1]; exact rfl) rfl rfl ?_) | (refine arl_off rfl rfl ?_) | (refine aw_condT (by simp +decide only [aop, abuiltin, aeval, aintBin, bin_int, aload_bump, SS, reduceIte, reduceCtorEq, lit1]; first | done | exact rfl) ?_) | (refine aw_condF (by simp +decide only [aop, abuiltin, aeval, aintBin, bin_int, aload_bump, SS, reduceIte, reduceCtorEq, lit1]; first | done | exact rfl) ?_))
        refine arl_call rfl rfl rfl rfl rfl rfl ((cat_ok (K' := fun _ => True) (ys := [more]) (by repeat (first | assumption | (refine WF.bump ?_ _) | (refine WF.put ?_ (by simp only [n_bump, n_put, n_touch, n_kill] at *; omega) (by simp only [n_bump, n_put, n_touch, n_kill] at *; omega)))) (hP4.rd.up (by repeat (first | assumption | exact Keeps.refl _ _ | (refine Keeps.bumpR ?_ _) | (refine Keeps.put ?_ (by assumption) (by simp only [n_bump, n_put, n_touch, n_kill] at *; omega))))) (RdB.lit _ _ _ [_]) (by simp; omega)).wf (by repeat (first | assumption | (refine WF.bump ?_ _) | (refine WF.put ?_ (by simp only [n_bump, n_put, n_touch, n_kill] at *; omega) (by simp only [n_bump, n_put, n_touch, n_kill] at *; omega)))) |>.mono ?_)
        rintro z s8 ⟨hw8, hn8, hE8, hzs, hZ⟩
        refine ⟨hzs, ?_⟩
        replace hE8 : Ext s4 s8 := Keeps.trans (show Ext s4 _ from (by repeat (first | assumption | exact Keeps.refl _ _ | (refine Keeps.bumpR ?_ _) | (refine Keeps.put ?_ (by assumption) (by simp only [n_bump, n_put, n_touch, n_kill] at *; omega))))) hE8
        repeat (first | (refine aw_seq ?_) | (refine aw_reg0 (by simp only [SZ, Nat.reduceAdd]; exact rfl) ?_) | (refine aw_reg (by decide +kernel) (by simp only [SZ, Nat.reduceAdd]; exact rfl) ?_) | (refine aw_regS (by decide +kernel) (by simp only [SZ, Nat.reduceAdd]; exact rfl) ?_) | (refine arl_nil ?_) | (refine aw_skip ?_) | (refine aw_block ?_) | (refine aw_exit ?_) | (refine aw_ret ?_) | (refine arl_cons rfl rfl (by simp +decide only [aop, abuiltin, aeval, aintBin, bin_int, aload_bump, SS, reduceIte, reduceCtorEq, hln]; exact rfl) (by first | rfl | with_reducible assumption) rfl ?_) | (refine arl_none rfl rfl (by simp +decide only [aop, abuiltin, aeval, aintBin, bin_int, aload_bump, SS, reduceIte, reduceCtorEq, hln]; exact rfl) rfl rfl ?_) | (refine arl_off rfl rfl ?_) | (refine aw_condT (by simp +decide only [aop, abuiltin, aeval, aintBin, bin_int, aload_bump, SS, reduceIte, reduceCtorEq, hln]; first | done | exact rfl) ?_) | (refine aw_condF (by simp +decide only [aop, abuiltin, aeval, aintBin, bin_int, aload_bump, SS, reduceIte, reduceCtorEq, hln]; first | done | exact rfl) ?_))
        refine arl_call rfl rfl rfl rfl rfl rfl ((unpack_ok (by repeat (first | assumption | (refine WF.bump ?_ _))) (b.length : Int) (hZ.rd.up (by repeat (first | exact Keeps.refl _ _ | (refine Keeps.bumpR ?_ _)))) (by simp; omega) hmo').wf (by repeat (first | assumption | (refine WF.bump ?_ _) | (refine WF.put ?_ (by simp only [n_bump, n_put, n_touch, n_kill] at *; omega) (by simp only [n_bump, n_put, n_touch, n_kill] at *; omega)))) |>.mono ?_)
        rintro r s9 ⟨hw9, hn9, hE9, lo, rfl, hlos, hLo⟩
        refine ⟨by first | rfl | with_reducible assumption, ?_⟩
        replace hE9 : Ext s8 s9 := Keeps.trans (by repeat (first | assumption | exact Keeps.refl _ _ | (refine Keeps.bumpR ?_ _) | (refine Keeps.put ?_ (by assumption) (by simp only [n_bump, n_put, n_touch, n_kill] at *; omega)))) hE9
        have hN9 := hE9.n
        rw [hlong] at hLo ⊢
        have hll := hLo.rd.len
        have hP9 := (hP4.up hE8).up hE9
        repeat (first | (refine aw_seq ?_) | (refine aw_reg0 (by simp only [SZ, Nat.reduceAdd]; exact rfl) ?_) | (refine aw_reg (by decide +kernel) (by simp only [SZ, Nat.reduceAdd]; exact rfl) ?_) | (refine aw_regS (by decide +kernel) (by simp only [SZ, Nat.reduceAdd]; exact rfl) ?_) | (refine arl_nil ?_) | (refine aw_skip ?_) | (refine aw_block ?_) | (refine aw_exit ?_) | (refine aw_ret ?_) | (refine arl_cons rfl rfl (by simp +decide only [aop, abuiltin, aeval, aintBin, bin_int, aload_bump, SS, reduceIte, reduceCtorEq, hlp, hlq]; exact rfl) (by first | rfl | with_reducible assumption) rfl ?_) | (refine arl_none rfl rfl (by simp +decide only [aop, abuiltin, aeval, aintBin, bin_int, aload_bump, SS, reduceIte, reduceCtorEq, hlp, hlq]; exact rfl) rfl rfl ?_) | (refine arl_off rfl rfl ?_) | (refine aw_condT (by simp +decide only [aop, abuiltin, aeval, aintBin, bin_int, aload_bump, SS, reduceIte, reduceCtorEq, hlp, hlq]; first | done | exact rfl) ?_) | (refine aw_condF (by simp +decide only [aop, abuiltin, aeval, aintBin, bin_int, aload_bump, SS, reduceIte, reduceCtorEq, hlp, hlq]; first | done | exact rfl) ?_))
        refine arl_call rfl rfl rfl rfl rfl rfl ((pieceP_ok (by repeat (first | assumption | (refine WF.bump ?_ _))) (hP9.rd.up (by repeat (first | exact Keeps.refl _ _ | (refine Keeps.bumpR ?_ _)))) 0 ((q.length : Int) - 1) (by omega) (by omega)).wf (by repeat (first | assumption | (refine WF.bump ?_ _) | (refine WF.put ?_ (by simp only [n_bump, n_put, n_touch, n_kill] at *; omega) (by simp only [n_bump, n_put, n_touch, n_kill] at *; omega)))) |>.mono ?_)
        rintro y s10 ⟨hw10, hn10, hE10, hys, hY⟩
        refine ⟨by first | rfl | with_reducible assumption, ?_⟩
        replace hE10 : Ext s9 s10 := Keeps.trans (by repeat (first | assumption | exact Keeps.refl _ _ | (refine Keeps.bumpR ?_ _) | (refine Keeps.put ?_ (by assumption) (by simp only [n_bump, n_put, n_touch, n_kill] at *; omega)))) hE10
        have hN10 := hE10.n
        have epc : (q.drop (0 : Int).toNat).take (((q.length : Int) - 1).toNat - (0 : Int).toNat) = q.take (q.length - 1) := by
          simp only [Int.toNat_zero, List.drop_zero, Nat.sub_zero]
          congr 1
          omega
        rw [epc] at hY
        repeat (first | (refine aw_seq ?_) | (refine aw_reg0 (by simp only [SZ, Nat.reduceAdd]; exact rfl) ?_) | (refine aw_reg (by decide +kernel) (by simp only [SZ, Nat.reduceAdd]; exact rfl) ?_) | (refine aw_regS (by decide +kernel) (by simp only [SZ, Nat.reduceAdd]; exact rfl) ?_) | (refine arl_nil ?_) | (refine aw_skip ?_) | (refine aw_block ?_) | (refine aw_exit ?_) | (refine aw_ret ?_) | (refine arl_cons rfl rfl (by simp +decide only [aop, abuiltin, aeval, aintBin, bin_int, aload_bump, SS, reduceIte, reduceCtorEq, hln]; exact rfl) (by first | rfl | with_reducible assumption) rfl ?_) | (refine arl_none rfl rfl (by simp +decide only [aop, abuiltin, aeval, aintBin, bin_int, aload_bump, SS, reduceIte, reduceCtorEq, hln]; exact rfl) rfl rfl ?_) | (refine arl_off rfl rfl ?_) | (refine aw_condT (by simp +decide only [aop, abuiltin, aeval, aintBin, bin_int, aload_bump, SS, reduceIte, reduceCtorEq, hln]; first | done | exact rfl) ?_) | (refine aw_condF (by simp +decide only [aop, abuiltin, aeval, aintBin, bin_int, aload_bump, SS, reduceIte, reduceCtorEq, hln]; first | done | exact rfl) ?_))
        refine arl_call rfl rfl rfl rfl rfl rfl ((unpack_ok (by repeat (first | assumption | (refine WF.bump ?_ _))) (b.length : Int) (hY.rd.up (by repeat (first | exact Keeps.refl _ _ | (refine Keeps.bumpR ?_ _)))) (by rw [List.length_take]; omega) (bytes_take hpby _)).wf (by repeat (first | assumption | (refine WF.bump ?_ _) | (refine WF.put ?_ (by simp only [n_bump, n_put, n_touch, n_kill] at *; omega) (by simp only [n_bump, n_put, n_touch, n_kill] at *; omega)))) |>.mono ?_)
        rintro r s11 ⟨hw11, hn11, hE11, sh, rfl, hshs, hSh⟩
        refine ⟨by first | rfl | with_reducible assumption, ?_⟩
        replace hE11 : Ext s10 s11 := Keeps.trans (by repeat (first | assumption | exact Keeps.refl _ _ | (refine Keeps.bumpR ?_ _) | (refine Keeps.put ?_ (by assumption) (by simp only [n_bump, n_put, n_touch, n_kill] at *; omega)))) hE11
        have hN11 := hE11.n
        rw [hcut] at hSh ⊢
        have hls := hSh.rd.len
        repeat (first | (refine aw_seq ?_) | (refine aw_reg0 (by simp only [SZ, Nat.reduceAdd]; exact rfl) ?_) | (refine aw_reg (by decide +kernel) (by simp only [SZ, Nat.reduceAdd]; exact rfl) ?_) | (refine aw_regS (by decide +kernel) (by simp only [SZ, Nat.reduceAdd]; exact rfl) ?_) | (refine arl_nil ?_) | (refine aw_skip ?_) | (refine aw_block ?_) | (refine aw_exit ?_) | (refine aw_ret ?_) | (refine arl_cons rfl rfl (by simp +decide only [aop, abuiltin, aeval, aintBin, bin_int, aload_bump, SS, reduceIte, reduceCtorEq, qn, hll, qz, hls]; exact rfl) (by first | rfl | with_reducible assumption) rfl ?_) | (refine arl_none rfl rfl (by simp +decide only [aop, abuiltin, aeval, aintBin, bin_int, aload_bump, SS, reduceIte, reduceCtorEq, qn, hll, qz, hls]; exact rfl) rfl rfl ?_) | (refine arl_off rfl rfl ?_) | (refine aw_condT (by simp +decide only [aop, abuiltin, aeval, aintBin, bin_int, aload_bump, SS, reduceIte, reduceCtorEq, qn, hll, qz, hls]; first | done | exact rfl) ?_) | (refine aw_condF (by simp +decide only [aop, abuiltin, aeval, aintBin, bin_int, aload_bump, SS, reduceIte, reduceCtorEq, qn, hll, qz, hls]; first | done | exact rfl) ?_))
        exact ⟨.inr rfl, _, rfl, rfl⟩
      · repeat (first | (refine aw_seq ?_) | (refine aw_reg0 (by simp only [SZ, Nat.reduceAdd]; exact rfl) ?_) | (refine aw_reg (by decide +kernel) (by simp only [SZ, Nat.reduceAdd]; exact rfl) ?_) | (refine aw_regS (by decide +kernel) (by simp only [SZ, Nat.reduceAdd]; exact rfl) ?_) | (refine arl_nil ?_) | (refine aw_skip ?_) | (refine aw_block ?_) | (refine aw_exit ?_) | (refine aw_ret ?_) | (refine arl_cons rfl rfl (by simp +decide only [aop, abuiltin, aeval, aintBin, bin_int, aload_bump, SS, reduceIte, reduceCtorEq, hln, d2, d3, q1]; exact rfl) (by first | rfl | with_reducible assumption) rfl ?_) | (refine arl_none rfl rfl (by simp +decide only [aop, abuiltin, aeval, aintBin, bin_int, aload_bump, SS, reduceIte, reduceCtorEq, hln, d2, d3, q1]; exact rfl) rfl rfl ?_) | (refine arl_off rfl rfl ?_) | (refine aw_condT (by simp +decide only [aop, abuiltin, aeval, aintBin, bin_int, aload_bump, SS, reduceIte, reduceCtorEq, hln, d2, d3, q1]; first | done | exact rfl) ?_) | (refine aw_condF (by simp +decide only [aop, abuiltin, aeval, aintBin, bin_int, aload_bump, SS, reduceIte, reduceCtorEq, hln, d2, d3, q1]; first | done | exact rfl) ?_))
        refine arl_call rfl rfl rfl rfl rfl rfl ((same_self (by repeat (first | assumption | (refine WF.bump ?_ _))) (hU.rd.up (by repeat (first | exact Keeps.refl _ _ | (refine Keeps.bumpR ?_ _)))) ((hb.up hS3).up (by repeat (first | exact Keeps.refl _ _ | (refine Keeps.bumpR ?_ _)))) (by omega)).wf (by repeat (first | assumption | (refine WF.bump ?_ _) | (refine WF.put ?_ (by simp only [n_bump, n_put, n_touch, n_kill] at *; omega) (by simp only [n_bump, n_put, n_touch, n_kill] at *; omega)))) |>.mono ?_)
        rintro r s4 ⟨hw4, hn4, hE4, rfl⟩
        refine ⟨by first | rfl | with_reducible assumption, ?_⟩
        replace hE4 : Ext s3 s4 := Keeps.trans (by repeat (first | assumption | exact Keeps.refl _ _ | (refine Keeps.bumpR ?_ _) | (refine Keeps.put ?_ (by assumption) (by simp only [n_bump, n_put, n_touch, n_kill] at *; omega)))) hE4
        have hN4 := hE4.n
        have hP4 := hP3.up hE4
        repeat (first | (refine aw_seq ?_) | (refine aw_reg0 (by simp only [SZ, Nat.reduceAdd]; exact rfl) ?_) | (refine aw_reg (by decide +kernel) (by simp only [SZ, Nat.reduceAdd]; exact rfl) ?_) | (refine aw_regS (by decide +kernel) (by simp only [SZ, Nat.reduceAdd]; exact rfl) ?_) | (refine arl_nil ?_) | (refine aw_skip ?_) | (refine aw_block ?_) | (refine aw_exit ?_) | (refine aw_ret ?_) | (refine arl_cons rfl rfl (by simp +decide only [aop, abuiltin, aeval, aintBin, bin_int, aload_bump, SS, reduceIte, reduceCtorEq, lit1]; exact rfl) (by first | rfl | with_reducible assumption) rfl ?_) | (refine arl_none rfl rfl (by simp +decide only [aop, abuiltin, aeval, aintBin, bin_int, aload_bump, SS, reduceIte, reduceCtorEq, lit1]; exact rfl) rfl rfl ?_) | (refine arl_off rfl rfl ?_) | (refine aw_condT (by simp +decide only [aop, abuiltin, aeval, aintBin, bin_int, aload_bump, SS, reduceIte, reduceCtorEq, lit1]; first | done | exact rfl) ?_) | (refine aw_condF (by simp +decide only [aop, abuiltin, aeval, aintBin, bin_int, aload_bump, SS, reduceIte, reduceCtorEq, lit1]; first | done | exact rfl) ?_))
        refine arl_call rfl rfl rfl rfl rfl rfl ((cat_ok (K' := fun _ => True) (ys := [more]) (by repeat (first | assumption | (refine WF.bump ?_ _) | (refine WF.put ?_ (by simp only [n_bump, n_put, n_touch, n_kill] at *; omega) (by simp only [n_bump, n_put, n_touch, n_kill] at *; omega)))) (hP4.rd.up (by repeat (first | assumption | exact Keeps.refl _ _ | (refine Keeps.bumpR ?_ _) | (refine Keeps.put ?_ (by assumption) (by simp only [n_bump, n_put, n_touch, n_kill] at *; omega))))) (RdB.lit _ _ _ [_]) (by simp; omega)).wf (by repeat (first | assumption | (refine WF.bump ?_ _) | (refine WF.put ?_ (by simp only [n_bump, n_put, n_touch, n_kill] at *; omega) (by simp only [n_bump, n_put, n_touch, n_kill] at *; omega)))) |>.mono ?_)
        rintro z s8 ⟨hw8, hn8, hE8, hzs, hZ⟩
        refine ⟨hzs, ?_⟩
        replace hE8 : Ext s4 s8 := Keeps.trans (show Ext s4 _ from (by repeat (first | assumption | exact Keeps.refl _ _ | (refine Keeps.bumpR ?_ _) | (refine Keeps.put ?_ (by assumption) (by simp only [n_bump, n_put, n_touch, n_kill] at *; omega))))) hE8
        repeat (first | (refine aw_seq ?_) | (refine aw_reg0 (by simp only [SZ, Nat.reduceAdd]; exact rfl) ?_) | (refine aw_reg (by decide +kernel) (by simp only [SZ, Nat.reduceAdd]; exact rfl) ?_) | (refine aw_regS (by decide +kernel) (by simp only [SZ, Nat.reduceAdd]; exact rfl) ?_) | (refine arl_nil ?_) | (refine aw_skip ?_) | (refine aw_block ?_) | (refine aw_exit ?_) | (refine aw_ret ?_) | (refine arl_cons rfl rfl (by simp +decide only [aop, abuiltin, aeval, aintBin, bin_int, aload_bump, SS, reduceIte, reduceCtorEq, hln]; exact rfl) (by first | rfl | with_reducible assumption) rfl ?_) | (refine arl_none rfl rfl (by simp +decide only [aop, abuiltin, aeval, aintBin, bin_int, aload_bump, SS, reduceIte, reduceCtorEq, hln]; exact rfl) rfl rfl ?_) | (refine arl_off rfl rfl ?_) | (refine aw_condT (by simp +decide only [aop, abuiltin, aeval, aintBin, bin_int, aload_bump, SS, reduceIte, reduceCtorEq, hln]; first | done | exact rfl) ?_) | (refine aw_condF (by simp +decide only [aop, abuiltin, aeval, aintBin, bin_int, aload_bump, SS, reduceIte, reduceCtorEq, hln]; first | done | exact rfl) ?_))
        refine arl_call rfl rfl rfl rfl rfl rfl ((unpack_ok (by repeat (first | assumption | (refine WF.bump ?_ _))) (b.length : Int) (hZ.rd.up (by repeat (first | exact Keeps.refl _ _ | (refine Keeps.bumpR ?_ _)))) (by simp; omega) hmo').wf (by repeat (first | assumption | (refine WF.bump ?_ _) | (refine WF.put ?_ (by simp only [n_bump, n_put, n_touch, n_kill] at *; omega) (by simp only [n_bump, n_put, n_touch, n_kill] at *; omega)))) |>.mono ?_)
        rintro r s9 ⟨hw9, hn9, hE9, lo, rfl, hlos, hLo⟩
        refine ⟨by first | rfl | with_reducible assumption, ?_⟩
        replace hE9 : Ext s8 s9 := Keeps.trans (by repeat (first | assumption | exact Keeps.refl _ _ | (refine Keeps.bumpR ?_ _) | (refine Keeps.put ?_ (by assumption) (by simp only [n_bump, n_put, n_touch, n_kill] at *; omega)))) hE9
        have hN9 := hE9.n
        rw [hlong] at hLo ⊢
        have hll := hLo.rd.len
        have hP9 := (hP4.up hE8).up hE9
        repeat (first | (refine aw_seq ?_) | (refine aw_reg0 (by simp only [SZ, Nat.reduceAdd]; exact rfl) ?_) | (refine aw_reg (by decide +kernel) (by simp only [SZ, Nat.reduceAdd]; exact rfl) ?_) | (refine aw_regS (by decide +kernel) (by simp only [SZ, Nat.reduceAdd]; exact rfl) ?_) | (refine arl_nil ?_) | (refine aw_skip ?_) | (refine aw_block ?_) | (refine aw_exit ?_) | (refine aw_ret ?_) | (refine arl_cons rfl rfl (by simp +decide only [aop, abuiltin, aeval, aintBin, bin_int, aload_bump, SS, reduceIte, reduceCtorEq, hlp, hlq]; exact rfl) (by first | rfl | with_reducible assumption) rfl ?_) | (refine arl_none rfl rfl (by simp +decide only [aop, abuiltin, aeval, aintBin, bin_int, aload_bump, SS, reduceIte, reduceCtorEq, hlp, hlq]; exact rfl) rfl rfl ?_) | (refine arl_off rfl rfl ?_) | (refine aw_condT (by simp +decide only [aop, abuiltin, aeval, aintBin, bin_int, aload_bump, SS, reduceIte, reduceCtorEq, hlp, hlq]; first | done | exact rfl) ?_) | (refine aw_condF (by simp +decide only [aop, abuiltin, aeval, aintBin, bin_int, aload_bump, SS, reduceIte, reduceCtorEq, hlp, hlq]; first | done | exact rfl) ?_))
        refine arl_call rfl rfl rfl rfl rfl rfl ((pieceP_ok (by repeat (first | assumption | (refine WF.bump ?_ _))) (hP9.rd.up (by repeat (first | exact Keeps.refl _ _ | (refine Keeps.bumpR ?_ _)))) 0 ((q.length : Int) - 1) (by omega) (by omega)).wf (by repeat (first | assumption | (refine WF.bump ?_ _) | (refine WF.put ?_ (by simp only [n_bump, n_put, n_touch, n_kill] at *; omega) (by simp only [n_bump, n_put, n_touch, n_kill] at *; omega)))) |>.mono ?_)
        rintro y s10 ⟨hw10, hn10, hE10, hys, hY⟩
        refine ⟨by first | rfl | with_reducible assumption, ?_⟩
        replace hE10 : Ext s9 s10 := Keeps.trans (by repeat (first | assumption | exact Keeps.refl _ _ | (refine Keeps.bumpR ?_ _) | (refine Keeps.put ?_ (by assumption) (by simp only [n_bump, n_put, n_touch, n_kill] at *; omega)))) hE10
        have hN10 := hE10.n
        have epc : (q.drop (0 : Int).toNat).take (((q.length : Int) - 1).toNat - (0 : Int).toNat) = q.take (q.length - 1) := by
          simp only [Int.toNat_zero, List.drop_zero, Nat.sub_zero]
          congr 1
          omega
        rw [epc] at hY
        repeat (first | (refine aw_seq ?_) | (refine aw_reg0 (by simp only [SZ, Nat.reduceAdd]; exact rfl) ?_) | (refine aw_reg (by decide +kernel) (by simp only [SZ, Nat.reduceAdd]; exact rfl) ?_) | (refine aw_regS (by decide +kernel) (by simp only [SZ, Nat.reduceAdd]; exact rfl) ?_) | (refine arl_nil ?_) | (refine aw_skip ?_) | (refine aw_block ?_) | (refine aw_exit ?_) | (refine aw_ret ?_) | (refine arl_cons rfl rfl (by simp +decide only [aop, abuiltin, aeval, aintBin, bin_int, aload_bump, SS, reduceIte, reduceCtorEq, hln]; exact rfl) (by first | rfl | with_reducible assumption) rfl ?_) | (refine arl_none rfl rfl (by simp +decide only [aop, abuiltin, aeval, aintBin, bin_int, aload_bump, SS, reduceIte, reduceCtorEq, hln]; exact rfl) rfl rfl ?_) | (refine arl_off rfl rfl ?_) | (refine aw_condT (by simp +decide only [aop, abuiltin, aeval, aintBin, bin_int, aload_bump, SS, reduceIte, reduceCtorEq, hln]; first | done | exact rfl) ?_) | (refine aw_condF (by simp +decide only [aop, abuiltin, aeval, aintBin, bin_int, aload_bump, SS, reduceIte, reduceCtorEq, hln]; first | done | exact rfl) ?_))
        refine arl_call rfl rfl rfl rfl rfl rfl ((unpack_ok (by repeat (first | assumption | (refine WF.bump ?_ _))) (b.length : Int) (hY.rd.up (by repeat (first | exact Keeps.refl _ _ | (refine Keeps.bumpR ?_ _)))) (by rw [List.length_take]; omega) (bytes_take hpby _)).wf (by repeat (first | assumption | (refine WF.bump ?_ _) | (refine WF.put ?_ (by simp only [n_bump, n_put, n_touch, n_kill] at *; omega) (by simp only [n_bump, n_put, n_touch, n_kill] at *; omega)))) |>.mono ?_)
        rintro r s11 ⟨hw11, hn11, hE11, sh, rfl, hshs, hSh⟩
        refine ⟨by first | rfl | with_reducible assumption, ?_⟩
        replace hE11 : Ext s10 s11 := Keeps.trans (by repeat (first | assumption | exact Keeps.refl _ _ | (refine Keeps.bumpR ?_ _) | (refine Keeps.put ?_ (by assumption) (by simp only [n_bump, n_put, n_touch, n_kill] at *; omega)))) hE11
        have hN11 := hE11.n
        rw [hcut] at hSh ⊢
        have hls := hSh.rd.len
        repeat (first | (refine aw_seq ?_) | (refine aw_reg0 (by simp only [SZ, Nat.reduceAdd]; exact rfl) ?_) | (refine aw_reg (by decide +kernel) (by simp only [SZ, Nat.reduceAdd]; exact rfl) ?_) | (refine aw_regS (by decide +kernel) (by simp only [SZ, Nat.reduceAdd]; exact rfl) ?_) | (refine arl_nil ?_) | (refine aw_skip ?_) | (refine aw_block ?_) | (refine aw_exit ?_) | (refine aw_ret ?_) | (refine arl_cons rfl rfl (by simp +decide only [aop, abuiltin, aeval, aintBin, bin_int, aload_bump, SS, reduceIte, reduceCtorEq, qn, hll, qz, hls]; exact rfl) (by first | rfl | with_reducible assumption) rfl ?_) | (refine arl_none rfl rfl (by simp +decide only [aop, abuiltin, aeval, aintBin, bin_int, aload_bump, SS, reduceIte, reduceCtorEq, qn, hll, qz, hls]; exact rfl) rfl rfl ?_) | (refine arl_off rfl rfl ?_) | (refine aw_condT (by simp +decide only [aop, abuiltin, aeval, aintBin, bin_int, aload_bump, SS, reduceIte, reduceCtorEq, qn, hll, qz, hls]; first | done | exact rfl) ?_) | (refine aw_condF (by simp +decide only [aop, abuiltin, aeval, aintBin, bin_int, aload_bump, SS, reduceIte, reduceCtorEq, qn, hll, qz, hls]; first | done | exact rfl) ?_))
        exact ⟨.inr rfl, _, rfl, rfl⟩
    · rw [if_neg hm] at hU ⊢
      have d2 : decide (most ≥ (b.length : Int)) = false := decide_eq_false (by omega)
      have d3 : ((b.length : Int) == 0) = false := by rw [beq_eq_false_iff_ne]; omega
      have q4 : ((4 : Int) != 4) = false := by decide
      have hlu := hU.rd.len
      repeat (first | (refine aw_seq ?_) | (refine aw_reg0 (by simp only [SZ, Nat.reduceAdd]; exact rfl) ?_) | (refine aw_reg (by decide +kernel) (by simp only [SZ, Nat.reduceAdd]; exact rfl) ?_) | (refine aw_regS (by decide +kernel) (by simp only [SZ, Nat.reduceAdd]; exact rfl) ?_) | (refine arl_nil ?_) | (refine aw_skip ?_) | (refine aw_block ?_) | (refine aw_exit ?_) | (refine aw_ret ?_) | (refine arl_cons rfl rfl (by simp +decide only [aop, abuiltin, aeval, aintBin, bin_int, aload_bump, SS, reduceIte, reduceCtorEq, hln, d2, d3, q4, hlu, qzn]; exact rfl) (by first | rfl | with_reducible assumption) rfl ?_) | (refine arl_none rfl rfl (by simp +decide only [aop, abuiltin, aeval, aintBin, bin_int, aload_bump, SS, reduceIte, reduceCtorEq, hln, d2, d3, q4, hlu, qzn]; exact rfl) rfl rfl ?_) | (refine arl_off rfl rfl ?_) | (refine aw_condT (by simp +decide only [aop, abuiltin, aeval, aintBin, bin_int, aload_bump, SS, reduceIte, reduceCtorEq, hln, d2, d3, q4, hlu, qzn]; first | done | exact rfl) ?_) | (refine aw_condF (by simp +decide only [aop, abuiltin, aeval, aintBin, bin_int, aload_bump, SS, reduceIte, reduceCtorEq, hln, d2, d3, q4, hlu, qzn]; first | done | exact rfl) ?_))
      repeat (first | (refine aw_seq ?_) | (refine aw_reg0 (by simp only [SZ, Nat.reduceAdd]; exact rfl) ?_) | (refine aw_reg (by decide +kernel) (by simp only [SZ, Nat.reduceAdd]; exact rfl) ?_) | (refine aw_regS (by decide +kernel) (by simp only [SZ, Nat.reduceAdd]; exact rfl) ?_) | (refine arl_nil ?_) | (refine aw_skip ?_) | (refine aw_block ?_) | (refine aw_exit ?_) | (refine aw_ret ?_) | (refine arl_cons rfl rfl (by simp +decide only [aop, abuiltin, aeval, aintBin, bin_int, aload_bump, SS, reduceIte, reduceCtorEq, lit1]; exact rfl) (by first | rfl | with_reducible assumption) rfl ?_) | (refine arl_none rfl rfl (by simp +decide only [aop, abuiltin, aeval, aintBin, bin_int, aload_bump, SS, reduceIte, reduceCtorEq, lit1]; exact rfl) rfl rfl ?_) | (refine arl_off rfl rfl ?_) | (refine aw_condT (by simp +decide only [aop, abuiltin, aeval, aintBin, bin_int, aload_bump, SS, reduceIte, reduceCtorEq, lit1]; first | done | exact rfl) ?_) | (refine aw_condF (by simp +decide only [aop, abuiltin, aeval, aintBin, bin_int, aload_bump, SS, reduceIte, reduceCtorEq, lit1]; first | done | exact rfl) ?_))
      refine arl_call rfl rfl rfl rfl rfl rfl ((cat_ok (K' := fun _ => True) (ys := [more]) (by repeat (first | assumption | (refine WF.bump ?_ _) | (refine WF.put ?_ (by simp only [n_bump, n_put, n_touch, n_kill] at *; omega) (by simp only [n_bump, n_put, n_touch, n_kill] at *; omega)))) (hP3.rd.up (by repeat (first | assumption | exact Keeps.refl _ _ | (refine Keeps.bumpR ?_ _) | (refine Keeps.put ?_ (by assumption) (by simp only [n_bump, n_put, n_touch, n_kill] at *; omega))))) (RdB.lit _ _ _ [_]) (by simp; omega)).wf (by repeat (first | assumption | (refine WF.bump ?_ _) | (refine WF.put ?_ (by simp only [n_bump, n_put, n_touch, n_kill] at *; omega) (by simp only [n_bump, n_put, n_touch, n_kill] at *; omega)))) |>.mono ?_)
      rintro z s8 ⟨hw8, hn8, hE8, hzs, hZ⟩
      refine ⟨hzs, ?_⟩
      replace hE8 : Ext s3 s8 := Keeps.trans (show Ext s3 _ from (by repeat (first | assumption | exact Keeps.refl _ _ | (refine Keeps.bumpR ?_ _) | (refine Keeps.put ?_ (by assumption) (by simp only [n_bump, n_put, n_touch, n_kill] at *; omega))))) hE8
      repeat (first | (refine aw_seq ?_) | (refine aw_reg0 (by simp only [SZ, Nat.reduceAdd]; exact rfl) ?_) | (refine aw_reg (by decide +kernel) (by simp only [SZ, Nat.reduceAdd]; exact rfl) ?_) | (refine aw_regS (by decide +kernel) (by simp only [SZ, Nat.reduceAdd]; exact rfl) ?_) | (refine arl_nil ?_) | (refine aw_skip ?_) | (refine aw_block ?_) | (refine aw_exit ?_) | (refine aw_ret ?_) | (refine arl_cons rfl rfl (by simp +decide only [aop, abuiltin, aeval, aintBin, bin_int, aload_bump, SS, reduceIte, reduceCtorEq, hln]; exact rfl) (by first | rfl | with_reducible assumption) rfl ?_) | (refine arl_none rfl rfl (by simp +decide only [aop, abuiltin, aeval, aintBin, bin_int, aload_bump, SS, reduceIte, reduceCtorEq, hln]; exact rfl) rfl rfl ?_) | (refine arl_off rfl rfl ?_) | (refine aw_condT (by simp +decide only [aop, abuiltin, aeval, aintBin, bin_int, aload_bump, SS, reduceIte, reduceCtorEq, hln]; first | done | exact rfl) ?_) | (refine aw_condF (by simp +decide only [aop, abuiltin, aeval, aintBin, bin_int, aload_bump, SS, reduceIte, reduceCtorEq, hln]; first | done | exact rfl) ?_))
      refine arl_call rfl rfl rfl rfl rfl rfl ((unpack_ok (by repeat (first | assumption | (refine WF.bump ?_ _))) (b.length : Int) (hZ.rd.up (by repeat (first | exact Keeps.refl _ _ | (refine Keeps.bumpR ?_ _)))) (by simp; omega) hmo').wf (by repeat (first | assumption | (refine WF.bump ?_ _) | (refine WF.put ?_ (by simp only [n_bump, n_put, n_touch, n_kill] at *; omega) (by simp only [n_bump, n_put, n_touch, n_kill] at *; omega)))) |>.mono ?_)
      rintro r s9 ⟨hw9, hn9, hE9, lo, rfl, hlos, hLo⟩
      refine ⟨by first | rfl | with_reducible assumption, ?_⟩
      replace hE9 : Ext s8 s9 := Keeps.trans (by repeat (first | assumption | exact Keeps.refl _ _ | (refine Keeps.bumpR ?_ _) | (refine Keeps.put ?_ (by assumption) (by simp only [n_bump, n_put, n_touch, n_kill] at *; omega)))) hE9
      have hN9 := hE9.n
      rw [hlong] at hLo ⊢
      have hll := hLo.rd.len
      have hP9 := (hP3.up hE8).up hE9
      repeat (first | (refine aw_seq ?_) | (refine aw_reg0 (by simp only [SZ, Nat.reduceAdd]; exact rfl) ?_) | (refine aw_reg (by decide +kernel) (by simp only [SZ, Nat.reduceAdd]; exact rfl) ?_) | (refine aw_regS (by decide +kernel) (by simp only [SZ, Nat.reduceAdd]; exact rfl) ?_) | (refine arl_nil ?_) | (refine aw_skip ?_) | (refine aw_block ?_) | (refine aw_exit ?_) | (refine aw_ret ?_) | (refine arl_cons rfl rfl (by simp +decide only [aop, abuiltin, aeval, aintBin, bin_int, aload_bump, SS, reduceIte, reduceCtorEq, hlp, hlq]; exact rfl) (by first | rfl | with_reducible assumption) rfl ?_) | (refine arl_none rfl rfl (by simp +decide only [aop, abuiltin, aeval, aintBin, bin_int, aload_bump, SS, reduceIte, reduceCtorEq, hlp, hlq]; exact rfl) rfl rfl ?_) | (refine arl_off rfl rfl ?_) | (refine aw_condT (by simp +decide only [aop, abuiltin, aeval, aintBin, bin_int, aload_bump, SS, reduceIte, reduceCtorEq, hlp, hlq]; first | done | exact rfl) ?_) | (refine aw_condF (by simp +decide only [aop, abuiltin, aeval, aintBin, bin_int, aload_bump, SS, reduceIte, reduceCtorEq, hlp, hlq]; first | done | exact rfl) ?_))
      refine arl_call rfl rfl rfl rfl rfl rfl ((pieceP_ok (by repeat (first | assumption | (refine WF.bump ?_ _))) (hP9.rd.up (by repeat (first | exact Keeps.refl _ _ | (refine Keeps.bumpR ?_ _)))) 0 ((q.length : Int) - 1) (by omega) (by omega)).wf (by repeat (first | assumption | (refine WF.bump ?_ _) | (refine WF.put ?_ (by simp only [n_bump, n_put, n_touch, n_kill] at *; omega) (by simp only [n_bump, n_put, n_touch, n_kill] at *; omega)))) |>.mono ?_)
      rintro y s10 ⟨hw10, hn10, hE10, hys, hY⟩
      refine ⟨by first | rfl | with_reducible assumption, ?_⟩
      replace hE10 : Ext s9 s10 := Keeps.trans (by repeat (first | assumption | exact Keeps.refl _ _ | (refine Keeps.bumpR ?_ _) | (refine Keeps.put ?_ (by assumption) (by simp only [n_bump, n_put, n_touch, n_kill] at *; omega)))) hE10
      have hN10 := hE10.n
      have epc : (q.drop (0 : Int).toNat).take (((q.length : Int) - 1).toNat - (0 : Int).toNat) = q.take (q.length - 1) := by
        simp only [Int.toNat_zero, List.drop_zero, Nat.sub_zero]
        congr 1
        omega
      rw [epc] at hY
      repeat (first | (refine aw_seq ?_) | (refine aw_reg0 (by simp only [SZ, Nat.reduceAdd]; exact rfl) ?_) | (refine aw_reg (by decide +kernel) (by simp only [SZ, Nat.reduceAdd]; exact rfl) ?_) | (refine aw_regS (by decide +kernel) (by simp only [SZ, Nat.reduceAdd]; exact rfl) ?_) | (refine arl_nil ?_) | (refine aw_skip ?_) | (refine aw_block ?_) | (refine aw_exit ?_) | (refine aw_ret ?_) | (refine arl_cons rfl rfl (by simp +decide only [aop, abuiltin, aeval, aintBin, bin_int, aload_bump, SS, reduceIte, reduceCtorEq, hln]; exact rfl) (by first | rfl | with_reducible assumption) rfl ?_) | (refine arl_none rfl rfl (by simp +decide only [aop, abuiltin, aeval, aintBin, bin_int, aload_bump, SS, reduceIte, reduceCtorEq, hln]; exact rfl) rfl rfl ?_) | (refine arl_off rfl rfl ?_) | (refine aw_condT (by simp +decide only [aop, abuiltin, aeval, aintBin, bin_int, aload_bump, SS, reduceIte, reduceCtorEq, hln]; first | done | exact rfl) ?_) | (refine aw_condF (by simp +decide only [aop, abuiltin, aeval, aintBin, bin_int, aload_bump, SS, reduceIte, reduceCtorEq, hln]; first | done | exact rfl) ?_))
      refine arl_call rfl rfl rfl rfl rfl rfl ((unpack_ok (by repeat (first | assumption | (refine WF.bump ?_ _))) (b.length : Int) (hY.rd.up (by repeat (first | exact Keeps.refl _ _ | (refine Keeps.bumpR ?_ _)))) (by rw [List.length_take]; omega) (bytes_take hpby _)).wf (by repeat (first | assumption | (refine WF.bump ?_ _) | (refine WF.put ?_ (by simp only [n_bump, n_put, n_touch, n_kill] at *; omega) (by simp only [n_bump, n_put, n_touch, n_kill] at *; omega)))) |>.mono ?_)
      rintro r s11 ⟨hw11, hn11, hE11, sh, rfl, hshs, hSh⟩
      refine ⟨by first | rfl | with_reducible assumption, ?_⟩
      replace hE11 : Ext s10 s11 := Keeps.trans (by repeat (first | assumption | exact Keeps.refl _ _ | (refine Keeps.bumpR ?_ _) | (refine Keeps.put ?_ (by assumption) (by simp only [n_bump, n_put, n_touch, n_kill] at *; omega)))) hE11
      have hN11 := hE11.n
      rw [hcut] at hSh ⊢
      have hls := hSh.rd.len
      repeat (first | (refine aw_seq ?_) | (refine aw_reg0 (by simp only [SZ, Nat.reduceAdd]; exact rfl) ?_) | (refine aw_reg (by decide +kernel) (by simp only [SZ, Nat.reduceAdd]; exact rfl) ?_) | (refine aw_regS (by decide +kernel) (by simp only [SZ, Nat.reduceAdd]; exact rfl) ?_) | (refine arl_nil ?_) | (refine aw_skip ?_) | (refine aw_block ?_) | (refine aw_exit ?_) | (refine aw_ret ?_) | (refine arl_cons rfl rfl (by simp +decide only [aop, abuiltin, aeval, aintBin, bin_int, aload_bump, SS, reduceIte, reduceCtorEq, qn, hll, qz, hls]; exact rfl) (by first | rfl | with_reducible assumption) rfl ?_) | (refine arl_none rfl rfl (by simp +decide only [aop, abuiltin, aeval, aintBin, bin_int, aload_bump, SS, reduceIte, reduceCtorEq, qn, hll, qz, hls]; exact rfl) rfl rfl ?_) | (refine arl_off rfl rfl ?_) | (refine aw_condT (by simp +decide only [aop, abuiltin, aeval, aintBin, bin_int, aload_bump, SS, reduceIte, reduceCtorEq, qn, hll, qz, hls]; first | done | exact rfl) ?_) | (refine aw_condF (by simp +decide only [aop, abuiltin, aeval, aintBin, bin_int, aload_bump, SS, reduceIte, reduceCtorEq, qn, hll, qz, hls]; first | done | exact rfl) ?_))
      exact ⟨.inr rfl, _, rfl, rfl⟩
theorem PressBack_small {st : St} (hw : WF st) {v : AV} {b : List Int} (h : RdL st (fun _ => True) 1 (fun cs n => cs = [.pl (.int .u8 n)]) v b) (g : ∀ x ∈ b, (Lit.int .u8 x).wf = true) (most : Int) (g2 : (Lit.int .i64 most).wf = true) (more : Int) (g3 : (Lit.int .u8 more).wf = true) (hb : (b.map fun _ => 1).sum + 1 + 1 + 1 ≤ 1048576) :
    ACalls Try.prog 6 [v, i64 most, u8 more] st (fun r s => r = .pl (.bool true)) := by
  rw [sum_1] at hb
  exact pback_ok hw most more (RdL.bytes h) (by omega) (fun x hx => by have := wfu8 (g x hx); omega) (wfu8 g3)
end Go.Proofs.Ytoohookgimkhbaa.Ra
