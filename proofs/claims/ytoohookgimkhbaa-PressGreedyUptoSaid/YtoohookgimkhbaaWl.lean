/- leatlaw06.PressGreedy. -/
import Derived.Test.YtoohookgimkhbaaWi
import Derived.Test.YtoohookgimkhbaaWq
namespace Go.Proofs.Ytoohookgimkhbaa.Ra
open Go Go.RowKit Pn Vn
set_option linter.unusedVariables false
set_option linter.unusedSimpArgs false
set_option maxRecDepth 10000
/-- Where tokens end. -/
def posT (ts : List Tok) : Nat := (ts.map fun t => t.1.length + t.2.2.toNat).sum
theorem posT_snoc (ts : List Tok) (t : Tok) : posT (ts ++ [t]) = posT ts + (t.1.length + t.2.2.toNat) := by simp [posT]
theorem lo_pos {b : List Int} {d : Int} {ts : List Tok} {at_ : Nat} {p : Option Nat} (h : LO b d ts at_ p) : at_ = posT ts := by
  induction h with
  | nil => rfl
  | lit h h1 h2 h3 h4 h5 ih => rw [posT_snoc, ← ih]; simp
  | cop h h1 h2 h3 h4 h5 h6 h7 h8 h9 ih => rw [posT_snoc, ← ih]; simp
theorem lo_prev {b : List Int} {d : Int} {ts : List Tok} {at_ : Nat} {p : Option Nat} (h : LO b d ts at_ p) {t : Tok} (ht : ts[ts.length - 1]? = some t) (h0 : t.2.1 = 0) : p = some t.1.length := by
  cases h with
  | nil => simp at ht
  | lit h h1 h2 h3 h4 h5 => simp at ht; subst ht; rfl
  | @cop ts' at' p' dist n h h1 => simp at ht; subst ht; simp only at h0; omega
/-- A step of the layout. -/
theorem lo_step {b : List Int} {d : Int} {ts : List Tok} {at_ : Nat} {p : Option Nat} (h : LO b d ts at_ p) : ∀ (j : Nat) (hj : j < ts.length), ∃ (a : Nat) (q : Option Nat), LO b d (ts.take j) a q ∧ posT (ts.take j) = a ∧
    ((∃ l, ts[j] = (l, 0, 0) ∧ 1 ≤ l.length ∧ l.length ≤ 128 ∧ a + l.length ≤ b.length ∧ l = (b.drop a).take l.length ∧ (q = none ∨ q = some 128) ∧ posT (ts.take (j + 1)) = a + l.length) ∨
     ∃ dist n : Nat, ts[j] = ([], (dist : Int), (n : Int)) ∧ 1 ≤ dist ∧ dist ≤ 4096 ∧ dist ≤ a ∧ 4 ≤ n ∧ n ≤ 131 ∧ a + n ≤ b.length ∧ 1 ≤ d ∧ (∀ k, k < n → b.getD (a - dist + k) 0 = b.getD (a + k) 0) ∧ (n < 131 → a + n < b.length → b.getD (a - dist + n) 0 ≠ b.getD (a + n) 0) ∧ posT (ts.take (j + 1)) = a + n) := by
  induction h with
  | nil => intro j hj; simp at hj
  | @lit ts at_ p l h h1 h2 h3 h4 h5 ih =>
    intro j hj
    rw [List.length_append, List.length_singleton] at hj
    by_cases hlt : j < ts.length
    · obtain ⟨a, q, k1, k2, k3⟩ := ih j hlt
      rw [List.take_append_of_le_length (by omega), List.take_append_of_le_length (by omega), List.getElem_append_left hlt]
      exact ⟨a, q, k1, k2, k3⟩
    · obtain rfl : j = ts.length := by omega
      have e : (ts ++ [(l, (0 : Int), (0 : Int))]).take (ts.length + 1) = ts ++ [(l, 0, 0)] := List.take_of_length_le (by simp)
      rw [List.take_left, e, List.getElem_append_right (Nat.le_refl _), posT_snoc, ← lo_pos h]
      exact ⟨at_, p, h, rfl, .inl ⟨l, by simp, h1, h2, h3, h4, h5, by simp⟩⟩
  | @cop ts at_ p dist n h h1 h2 h3 h4 h5 h6 h7 h8 h9 ih =>
    intro j hj
    rw [List.length_append, List.length_singleton] at hj
    by_cases hlt : j < ts.length
    · obtain ⟨a, q, k1, k2, k3⟩ := ih j hlt
      rw [List.take_append_of_le_length (by omega), List.take_append_of_le_length (by omega), List.getElem_append_left hlt]
      exact ⟨a, q, k1, k2, k3⟩
    · obtain rfl : j = ts.length := by omega
      have e : (ts ++ [(([] : List Int), (dist : Int), (n : Int))]).take (ts.length + 1) = ts ++ [([], (dist : Int), (n : Int))] := List.take_of_length_le (by simp)
      rw [List.take_left, e, List.getElem_append_right (Nat.le_refl _), posT_snoc, ← lo_pos h]
      exact ⟨at_, p, h, rfl, .inr ⟨dist, n, by simp, h1, h2, h3, h4, h5, h6, h7, h8, h9, by simp⟩⟩
set_option maxHeartbeats 8000000 in
theorem pgreedy_ok {st : St} (hw : WF st) {v : AV} {b : List Int} (depth : Int) (hb : RdB st (fun _ => True) v b) (hbl : b.length ≤ 1048576) :
    ACalls Try.prog 7 [v, i64 depth] st (fun r s => r = .pl (.bool true)) := by
  replace hb := hb.lt hw
  have hvs := hb.solid
  have hln := hb.len
  refine acalls_of Try.func7 rfl (by kernel_rfl) (by simp [hvs]; rfl) ?_
  repeat (first | (refine aw_seq ?_) | (refine aw_reg0 (by simp only [SZ, Nat.reduceAdd]; exact rfl) ?_) | (refine aw_reg (by decide +kernel) (by simp only [SZ, Nat.reduceAdd]; exact rfl) ?_) | (refine aw_regS (by decide +kernel) (by simp only [SZ, Nat.reduceAdd]; exact rfl) ?_) | (refine arl_nil ?_) | (refine aw_skip ?_) | (refine aw_block ?_) | (refine aw_exit ?_) | (refine aw_ret ?_) | (refine arl_cons rfl rfl (by simp +decide only [aop, abuiltin, aeval, aintBin, bin_int, aload_bump, SS, reduceIte, reduceCtorEq]; exact rfl) (by first | rfl | with_reducible assumption) rfl ?_) | (refine arl_none rfl rfl (by simp +decide only [aop, abuiltin, aeval, aintBin, bin_int, aload_bump, SS, reduceIte, reduceCtorEq]; exact rfl) rfl rfl ?_) | (refine arl_off rfl rfl ?_) | (refine aw_condT (by simp +decide only [aop, abuiltin, aeval, aintBin, bin_int, aload_bump, SS, reduceIte, reduceCtorEq]; first | done | exact rfl) ?_) | (refine aw_condF (by simp +decide only [aop, abuiltin, aeval, aintBin, bin_int, aload_bump, SS, reduceIte, reduceCtorEq]; first | done | exact rfl) ?_))
  refine arl_call rfl rfl rfl rfl rfl rfl ((palive_ok (by repeat (first | assumption | (refine WF.bump ?_ _)))).wf (by repeat (first | assumption | (refine WF.bump ?_ _) | (refine WF.put ?_ (by simp only [n_bump, n_put, n_touch, n_kill] at *; omega) (by simp only [n_bump, n_put, n_touch, n_kill] at *; omega)))) |>.mono ?_)
  rintro r s1 ⟨hw1, hn1, hE1, rfl⟩
  refine ⟨by first | rfl | with_reducible assumption, ?_⟩
  replace hE1 : Ext st s1 := Keeps.trans (by repeat (first | assumption | exact Keeps.refl _ _ | (refine Keeps.bumpR ?_ _) | (refine Keeps.put ?_ (by assumption) (by simp only [n_bump, n_put, n_touch, n_kill] at *; omega)))) hE1
  have hN1 := hE1.n
  repeat (first | (refine aw_seq ?_) | (refine aw_reg0 (by simp only [SZ, Nat.reduceAdd]; exact rfl) ?_) | (refine aw_reg (by decide +kernel) (by simp only [SZ, Nat.reduceAdd]; exact rfl) ?_) | (refine aw_regS (by decide +kernel) (by simp only [SZ, Nat.reduceAdd]; exact rfl) ?_) | (refine arl_nil ?_) | (refine aw_skip ?_) | (refine aw_block ?_) | (refine aw_exit ?_) | (refine aw_ret ?_) | (refine arl_cons rfl rfl (by simp +decide only [aop, abuiltin, aeval, aintBin, bin_int, aload_bump, SS, reduceIte, reduceCtorEq]; exact rfl) (by first | rfl | with_reducible assumption) rfl ?_) | (refine arl_none rfl rfl (by simp +decide only [aop, abuiltin, aeval, aintBin, bin_int, aload_bump, SS, reduceIte, reduceCtorEq]; exact rfl) rfl rfl ?_) | (refine arl_off rfl rfl ?_) | (refine aw_condT (by simp +decide only [aop, abuiltin, aeval, aintBin, bin_int, aload_bump, SS, reduceIte, reduceCtorEq]; first | done | exact rfl) ?_) | (refine aw_condF (by simp +decide only [aop, abuiltin, aeval, aintBin, bin_int, aload_bump, SS, reduceIte, reduceCtorEq]; first | done | exact rfl) ?_))
  refine arl_call rfl rfl rfl rfl rfl rfl ((tokens_ok (by repeat (first | assumption | (refine WF.bump ?_ _))) depth ((hb.up hE1).up (by repeat (first | exact Keeps.refl _ _ | (refine Keeps.bumpR ?_ _)))) hbl).wf (by repeat (first | assumption | (refine WF.bump ?_ _) | (refine WF.put ?_ (by simp only [n_bump, n_put, n_touch, n_kill] at *; omega) (by simp only [n_bump, n_put, n_touch, n_kill] at *; omega)))) |>.mono ?_)
  rintro r s2 ⟨hw2, hn2, hE2, x, L, rfl, hxs, hX, hL, hLd⟩
  refine ⟨by first | rfl | with_reducible assumption, ?_⟩
  replace hE2 : Ext s1 s2 := Keeps.trans (by repeat (first | assumption | exact Keeps.refl _ _ | (refine Keeps.bumpR ?_ _) | (refine Keeps.put ?_ (by assumption) (by simp only [n_bump, n_put, n_touch, n_kill] at *; omega)))) hE2
  have hN2 := hE2.n
  have hS2 := hE1.trans hE2
  unfold rtoks at hX ⊢
  by_cases hbig : 32768 < b.length
  · rw [if_pos hbig] at hX ⊢
    have hlx := RdE.len (oTok_rd hX).rd TTK
    have d1 : decide ((b.length : Int) > 32768) = true := decide_eq_true (by omega)
    have q1 : ((4 : Int) == 4) = true := by decide
    have q2 : ((([] : List Tok).length : Int) == 0) = true := by decide
    repeat (first | (refine aw_seq ?_) | (refine aw_reg0 (by simp only [SZ, Nat.reduceAdd]; exact rfl) ?_) | (refine aw_reg (by decide +kernel) (by simp only [SZ, Nat.reduceAdd]; exact rfl) ?_) | (refine aw_regS (by decide +kernel) (by simp only [SZ, Nat.reduceAdd]; exact rfl) ?_) | (refine arl_nil ?_) | (refine aw_skip ?_) | (refine aw_block ?_) | (refine aw_exit ?_) | (refine aw_ret ?_) | (refine arl_cons rfl rfl (by simp +decide only [aop, abuiltin, aeval, aintBin, bin_int, aload_bump, SS, reduceIte, reduceCtorEq, hln, d1, q1, hlx, q2]; exact rfl) (by first | rfl | with_reducible assumption) rfl ?_) | (refine arl_none rfl rfl (by simp +decide only [aop, abuiltin, aeval, aintBin, bin_int, aload_bump, SS, reduceIte, reduceCtorEq, hln, d1, q1, hlx, q2]; exact rfl) rfl rfl ?_) | (refine arl_off rfl rfl ?_) | (refine aw_condT (by simp +decide only [aop, abuiltin, aeval, aintBin, bin_int, aload_bump, SS, reduceIte, reduceCtorEq, hln, d1, q1, hlx, q2]; first | done | exact rfl) ?_) | (refine aw_condF (by simp +decide only [aop, abuiltin, aeval, aintBin, bin_int, aload_bump, SS, reduceIte, reduceCtorEq, hln, d1, q1, hlx, q2]; first | done | exact rfl) ?_))
    exact ⟨.inr rfl, _, rfl, rfl⟩
  · rw [if_neg hbig] at hX ⊢
    simp only at hX ⊢
    obtain ⟨p, hLO⟩ := lo_grd b (min depth 32) b.length 0 0 [] .nil (Nat.le_refl _) (Nat.zero_le _) (by omega)
    have hgl := gtok_len b (min depth 32)
    unfold gtok at hgl
    generalize grd b (min depth 32) b.length 0 0 [] = ts at *
    have hR := (oTok_rd hX).rd
    have hlx := RdE.len hR TTK
    have d1 : decide ((b.length : Int) > 32768) = false := decide_eq_false (by omega)
    have hend := lo_pos hLO
    repeat (first | (refine aw_seq ?_) | (refine aw_reg0 (by simp only [SZ, Nat.reduceAdd]; exact rfl) ?_) | (refine aw_reg (by decide +kernel) (by simp only [SZ, Nat.reduceAdd]; exact rfl) ?_) | (refine aw_regS (by decide +kernel) (by simp only [SZ, Nat.reduceAdd]; exact rfl) ?_) | (refine arl_nil ?_) | (refine aw_skip ?_) | (refine aw_block ?_) | (refine aw_exit ?_) | (refine aw_ret ?_) | (refine arl_cons rfl rfl (by simp +decide only [aop, abuiltin, aeval, aintBin, bin_int, aload_bump, SS, reduceIte, reduceCtorEq, hln, d1, hlx]; exact rfl) (by first | rfl | with_reducible assumption) rfl ?_) | (refine arl_none rfl rfl (by simp +decide only [aop, abuiltin, aeval, aintBin, bin_int, aload_bump, SS, reduceIte, reduceCtorEq, hln, d1, hlx]; exact rfl) rfl rfl ?_) | (refine arl_off rfl rfl ?_) | (refine aw_condT (by simp +decide only [aop, abuiltin, aeval, aintBin, bin_int, aload_bump, SS, reduceIte, reduceCtorEq, hln, d1, hlx]; first | done | exact rfl) ?_) | (refine aw_condF (by simp +decide only [aop, abuiltin, aeval, aintBin, bin_int, aload_bump, SS, reduceIte, reduceCtorEq, hln, d1, hlx]; first | done | exact rfl) ?_))
    refine aw_rounds_wf (fun m fr s => Ext s2 s ∧ ∃ k : Nat, k ≤ ts.length ∧ m = ts.length - k ∧ fr 0 = v ∧ fr 1 = i64 depth ∧ fr 5 = x ∧ fr 6 = i64 0 ∧ fr 7 = i64 (posT (ts.take k)) ∧ fr 29 = x ∧ fr 30 = i64 ts.length ∧ fr 31 = i64 k) ?_ ts.length _ _ (by repeat (first | assumption | (refine WF.bump ?_ _))) ?_
    · rintro m fr sx hws ⟨hE, k, hk, rfl, f0, f1, f5, f6, f7, f29, f30, f31⟩
      have hEn := hE.n
      have hwk := wrap_succ (k := k) (by omega)
      by_cases hlt : k < ts.length
      · have d2 : decide ((k : Int) < (ts.length : Int)) = true := decide_eq_true (by omega)
        obtain ⟨q, c, a1, a2, a3, a4, a5, a6⟩ := tk_load (hR.up hE) k hlt
        obtain ⟨a, pq, hLk, hpa, hcase⟩ := lo_step hLO k hlt
        rw [hpa] at f7
        repeat (first | (refine aw_seq ?_) | (refine aw_reg0 (by simp only [SZ, Nat.reduceAdd]; exact rfl) ?_) | (refine aw_reg (by decide +kernel) (by simp only [SZ, Nat.reduceAdd]; exact rfl) ?_) | (refine aw_regS (by decide +kernel) (by simp only [SZ, Nat.reduceAdd]; exact rfl) ?_) | (refine arl_nil ?_) | (refine aw_skip ?_) | (refine aw_block ?_) | (refine aw_exit ?_) | (refine aw_ret ?_) | (refine arl_cons rfl rfl (by simp +decide only [aop, abuiltin, aeval, aintBin, bin_int, aload_bump, SS, reduceIte, reduceCtorEq, f30, f31, d2, f29, a1, a3]; exact rfl) (by first | rfl | with_reducible assumption) rfl ?_) | (refine arl_none rfl rfl (by simp +decide only [aop, abuiltin, aeval, aintBin, bin_int, aload_bump, SS, reduceIte, reduceCtorEq, f30, f31, d2, f29, a1, a3]; exact rfl) rfl rfl ?_) | (refine arl_off rfl rfl ?_) | (refine aw_condT (by simp +decide only [aop, abuiltin, aeval, aintBin, bin_int, aload_bump, SS, reduceIte, reduceCtorEq, f30, f31, d2, f29, a1, a3]; first | done | exact rfl) ?_) | (refine aw_condF (by simp +decide only [aop, abuiltin, aeval, aintBin, bin_int, aload_bump, SS, reduceIte, reduceCtorEq, f30, f31, d2, f29, a1, a3]; first | done | exact rfl) ?_))
        refine arl_storeW (e := TK) (cs := [c, i64 ts[k].2.1, i64 ts[k].2.2]) rfl rfl rfl rfl rfl (get_put _ _) szTK rfl rfl rfl (by simp [a6]; exact ⟨rfl, rfl⟩) rfl ?_
        intro s3 hn3 hwf3 hK3 hg3 hD3
        have hw3 : WF s3 := hwf3 (by repeat (first | assumption | (refine WF.bump ?_ _) | (refine WF.put ?_ (by simp only [n_bump, n_put, n_touch, n_kill] at *; omega) (by simp only [n_bump, n_put, n_touch, n_kill] at *; omega))))
        have hE3 : Ext sx s3 := Keeps.call (show Ext sx _ from (by repeat (first | assumption | exact Keeps.refl _ _ | (refine Keeps.bumpR ?_ _) | (refine Keeps.put ?_ (by assumption) (by simp only [n_bump, n_put, n_touch, n_kill] at *; omega))))) hK3 hws (fun g hg => .inr (by simp only [n_bump] at hg; omega))
        have hn3' : s3.n = sx.n + 7 := by rw [hn3]; simp only [n_put, n_bump]
        replace a4 := a4.up hE3
        have hb3 := hb.up ((hS2.trans hE).trans hE3)
        obtain ⟨o0, o1, o2, o3⟩ := tkLd hg3
        rcases hcase with ⟨l, hte, c1, c2, c3, c4, c5, hpos'⟩ | ⟨dist, n, hte, c1, c2, c3, c4, c5, c6, c7, c8, c9, hpos'⟩
        · simp only [hte] at o0 o1 o2 a4
          have hlc := a4.len
          have q0 : ((0 : Int) == 0) = true := by decide
          have e1 : decide ((l.length : Int) < 1) = false := decide_eq_false (by omega)
          have e2 : decide ((l.length : Int) > 128) = false := decide_eq_false (by omega)
          have hwla : IntKind.i64.wrap ((b.length : Int) - (a : Int)) = (b.length : Int) - a := wrap64_of (by omega) (by omega)
          have e3 : decide ((l.length : Int) > (b.length : Int) - a) = false := decide_eq_false (by omega)
          have hwad : IntKind.i64.wrap ((a : Int) + (l.length : Int)) = ((a + l.length : Nat) : Int) := by rw [wrap64_of (by omega) (by omega)]; omega
          obtain ⟨u, hcut, hus, hU⟩ := hb3.cuts (some (i64 a)) (some (i64 (a + l.length : Nat))) a (a + l.length) (.inl rfl) (.inl rfl) (by omega) c3
          rw [Nat.add_sub_cancel_left, ← c4] at hU
          repeat (first | (refine aw_seq ?_) | (refine aw_reg0 (by simp only [SZ, Nat.reduceAdd]; exact rfl) ?_) | (refine aw_reg (by decide +kernel) (by simp only [SZ, Nat.reduceAdd]; exact rfl) ?_) | (refine aw_regS (by decide +kernel) (by simp only [SZ, Nat.reduceAdd]; exact rfl) ?_) | (refine arl_nil ?_) | (refine aw_skip ?_) | (refine aw_block ?_) | (refine aw_exit ?_) | (refine aw_ret ?_) | (refine arl_cons rfl rfl (by simp +decide only [aop, abuiltin, aeval, aintBin, bin_int, aload_bump, SS, reduceIte, reduceCtorEq, faT0, faT1, o0, o1, q0, hlc, e1, e2, f0, hln, f7, hwla, e3, hwad, hcut]; exact rfl) (by first | rfl | with_reducible assumption) rfl ?_) | (refine arl_none rfl rfl (by simp +decide only [aop, abuiltin, aeval, aintBin, bin_int, aload_bump, SS, reduceIte, reduceCtorEq, faT0, faT1, o0, o1, q0, hlc, e1, e2, f0, hln, f7, hwla, e3, hwad, hcut]; exact rfl) rfl rfl ?_) | (refine arl_off rfl rfl ?_) | (refine aw_condT (by simp +decide only [aop, abuiltin, aeval, aintBin, bin_int, aload_bump, SS, reduceIte, reduceCtorEq, faT0, faT1, o0, o1, q0, hlc, e1, e2, f0, hln, f7, hwla, e3, hwad, hcut]; first | done | exact rfl) ?_) | (refine aw_condF (by simp +decide only [aop, abuiltin, aeval, aintBin, bin_int, aload_bump, SS, reduceIte, reduceCtorEq, faT0, faT1, o0, o1, q0, hlc, e1, e2, f0, hln, f7, hwla, e3, hwad, hcut]; first | done | exact rfl) ?_))
          refine arl_call rfl rfl rfl rfl rfl rfl ((same_self (by repeat (first | assumption | (refine WF.bump ?_ _))) (a4.up (by repeat (first | exact Keeps.refl _ _ | (refine Keeps.bumpR ?_ _)))) (hU.up (by repeat (first | exact Keeps.refl _ _ | (refine Keeps.bumpR ?_ _)))) (by omega)).wf (by repeat (first | assumption | (refine WF.bump ?_ _) | (refine WF.put ?_ (by simp only [n_bump, n_put, n_touch, n_kill] at *; omega) (by simp only [n_bump, n_put, n_touch, n_kill] at *; omega)))) |>.mono ?_)
          rintro r s4 ⟨hw4, hn4, hE4, rfl⟩
          refine ⟨by first | rfl | with_reducible assumption, ?_⟩
          replace hE4 : Ext s3 s4 := Keeps.trans (by repeat (first | assumption | exact Keeps.refl _ _ | (refine Keeps.bumpR ?_ _) | (refine Keeps.put ?_ (by assumption) (by simp only [n_bump, n_put, n_touch, n_kill] at *; omega)))) hE4
          have hN4 := hE4.n
          obtain ⟨p0, p1, p2, p3⟩ := tkLd (hE4.get _ _ hg3 (fun h => h))
          simp only [hte] at p0 p1 p2
          replace hE4 : Ext sx s4 := hE3.trans hE4
          cases k with
          | zero =>
            have e4 : decide (((0 : Nat) : Int) > 0) = false := by decide
            repeat (first | (refine aw_seq ?_) | (refine aw_reg0 (by simp only [SZ, Nat.reduceAdd]; exact rfl) ?_) | (refine aw_reg (by decide +kernel) (by simp only [SZ, Nat.reduceAdd]; exact rfl) ?_) | (refine aw_regS (by decide +kernel) (by simp only [SZ, Nat.reduceAdd]; exact rfl) ?_) | (refine arl_nil ?_) | (refine aw_skip ?_) | (refine aw_block ?_) | (refine aw_exit ?_) | (refine aw_ret ?_) | (refine arl_cons rfl rfl (by simp +decide only [aop, abuiltin, aeval, aintBin, bin_int, aload_bump, SS, reduceIte, reduceCtorEq, e4, f7, faT0, p0, hlc, hwad, f31, hwk]; exact rfl) (by first | rfl | with_reducible assumption) rfl ?_) | (refine arl_none rfl rfl (by simp +decide only [aop, abuiltin, aeval, aintBin, bin_int, aload_bump, SS, reduceIte, reduceCtorEq, e4, f7, faT0, p0, hlc, hwad, f31, hwk]; exact rfl) rfl rfl ?_) | (refine arl_off rfl rfl ?_) | (refine aw_condT (by simp +decide only [aop, abuiltin, aeval, aintBin, bin_int, aload_bump, SS, reduceIte, reduceCtorEq, e4, f7, faT0, p0, hlc, hwad, f31, hwk]; first | done | exact rfl) ?_) | (refine aw_condF (by simp +decide only [aop, abuiltin, aeval, aintBin, bin_int, aload_bump, SS, reduceIte, reduceCtorEq, e4, f7, faT0, p0, hlc, hwad, f31, hwk]; first | done | exact rfl) ?_))
            refine ⟨ts.length - (0 + 1), by omega, (hE.trans hE4).trans (by repeat (first | exact Keeps.refl _ _ | (refine Keeps.bumpR ?_ _))), 0 + 1, by omega, rfl, f0, f1, f5, f6, ?_, f29, f30, rfl⟩
            rw [hpos']
            rfl
          | succ k' =>
            have e4 : decide (((k' + 1 : Nat) : Int) > 0) = true := decide_eq_true (by omega)
            have hwk1 : IntKind.i64.wrap (((k' + 1 : Nat) : Int) - 1) = ((k' : Nat) : Int) := by rw [wrap64_of (by omega) (by omega)]; omega
            obtain ⟨i', off', c', b1, b2, b3, b4, b5, b6⟩ := tk_cells ((hR.up hE).up hE4) k' (by omega)
            have hlc' := b5.len
            have hlast : (ts.take (k' + 1))[(ts.take (k' + 1)).length - 1]? = some ts[k'] := by
              rw [List.length_take, Nat.min_eq_left (by omega), Nat.add_sub_cancel, List.getElem?_take, if_pos (by omega), List.getElem?_eq_getElem (by omega)]
            by_cases hz : ts[k'].2.1 = 0
            · have e5 : (ts[k'].2.1 == 0) = true := by simp [hz]
              have hpq := lo_prev hLk hlast hz
              have e6 : ((ts[k'].1.length : Int) != 128) = false := by
                rcases c5 with c5 | c5
                · rw [hpq] at c5; cases c5
                · rw [hpq] at c5
                  have : ts[k'].1.length = 128 := by simpa using c5
                  rw [this]
                  decide
              repeat (first | (refine aw_seq ?_) | (refine aw_reg0 (by simp only [SZ, Nat.reduceAdd]; exact rfl) ?_) | (refine aw_reg (by decide +kernel) (by simp only [SZ, Nat.reduceAdd]; exact rfl) ?_) | (refine aw_regS (by decide +kernel) (by simp only [SZ, Nat.reduceAdd]; exact rfl) ?_) | (refine arl_nil ?_) | (refine aw_skip ?_) | (refine aw_block ?_) | (refine aw_exit ?_) | (refine aw_ret ?_) | (refine arl_cons rfl rfl (by simp +decide only [aop, abuiltin, aeval, aintBin, bin_int, aload_bump, SS, reduceIte, reduceCtorEq, e4, f5, hwk1, b1, faT1, b3, e5, faT0, b2, hlc', e6, f7, p0, hlc, hwad, f31, hwk]; exact rfl) (by first | rfl | with_reducible assumption) rfl ?_) | (refine arl_none rfl rfl (by simp +decide only [aop, abuiltin, aeval, aintBin, bin_int, aload_bump, SS, reduceIte, reduceCtorEq, e4, f5, hwk1, b1, faT1, b3, e5, faT0, b2, hlc', e6, f7, p0, hlc, hwad, f31, hwk]; exact rfl) rfl rfl ?_) | (refine arl_off rfl rfl ?_) | (refine aw_condT (by simp +decide only [aop, abuiltin, aeval, aintBin, bin_int, aload_bump, SS, reduceIte, reduceCtorEq, e4, f5, hwk1, b1, faT1, b3, e5, faT0, b2, hlc', e6, f7, p0, hlc, hwad, f31, hwk]; first | done | exact rfl) ?_) | (refine aw_condF (by simp +decide only [aop, abuiltin, aeval, aintBin, bin_int, aload_bump, SS, reduceIte, reduceCtorEq, e4, f5, hwk1, b1, faT1, b3, e5, faT0, b2, hlc', e6, f7, p0, hlc, hwad, f31, hwk]; first | done | exact rfl) ?_))
              refine ⟨ts.length - (k' + 1 + 1), by omega, (hE.trans hE4).trans (by repeat (first | exact Keeps.refl _ _ | (refine Keeps.bumpR ?_ _))), k' + 1 + 1, by omega, rfl, f0, f1, f5, f6, ?_, f29, f30, rfl⟩
              rw [hpos']
              rfl
            · have e5 : (ts[k'].2.1 == 0) = false := by simp [hz]
              repeat (first | (refine aw_seq ?_) | (refine aw_reg0 (by simp only [SZ, Nat.reduceAdd]; exact rfl) ?_) | (refine aw_reg (by decide +kernel) (by simp only [SZ, Nat.reduceAdd]; exact rfl) ?_) | (refine aw_regS (by decide +kernel) (by simp only [SZ, Nat.reduceAdd]; exact rfl) ?_) | (refine arl_nil ?_) | (refine aw_skip ?_) | (refine aw_block ?_) | (refine aw_exit ?_) | (refine aw_ret ?_) | (refine arl_cons rfl rfl (by simp +decide only [aop, abuiltin, aeval, aintBin, bin_int, aload_bump, SS, reduceIte, reduceCtorEq, e4, f5, hwk1, b1, faT1, b3, e5, f7, faT0, p0, hlc, hwad, f31, hwk]; exact rfl) (by first | rfl | with_reducible assumption) rfl ?_) | (refine arl_none rfl rfl (by simp +decide only [aop, abuiltin, aeval, aintBin, bin_int, aload_bump, SS, reduceIte, reduceCtorEq, e4, f5, hwk1, b1, faT1, b3, e5, f7, faT0, p0, hlc, hwad, f31, hwk]; exact rfl) rfl rfl ?_) | (refine arl_off rfl rfl ?_) | (refine aw_condT (by simp +decide only [aop, abuiltin, aeval, aintBin, bin_int, aload_bump, SS, reduceIte, reduceCtorEq, e4, f5, hwk1, b1, faT1, b3, e5, f7, faT0, p0, hlc, hwad, f31, hwk]; first | done | exact rfl) ?_) | (refine aw_condF (by simp +decide only [aop, abuiltin, aeval, aintBin, bin_int, aload_bump, SS, reduceIte, reduceCtorEq, e4, f5, hwk1, b1, faT1, b3, e5, f7, faT0, p0, hlc, hwad, f31, hwk]; first | done | exact rfl) ?_))
              refine ⟨ts.length - (k' + 1 + 1), by omega, (hE.trans hE4).trans (by repeat (first | exact Keeps.refl _ _ | (refine Keeps.bumpR ?_ _))), k' + 1 + 1, by omega, rfl, f0, f1, f5, f6, ?_, f29, f30, rfl⟩
              rw [hpos']
              rfl
        · simp only [hte] at o0 o1 o2 a4
          have q0 : ((dist : Int) == 0) = false := by rw [beq_eq_false_iff_ne]; omega
          have e1 : decide ((dist : Int) < 1) = false := decide_eq_false (by omega)
          have e2 : decide ((dist : Int) > 4096) = false := decide_eq_false (by omega)
          have e3 : decide ((dist : Int) > (a : Int)) = false := decide_eq_false (by omega)
          have e4 : decide ((n : Int) < 4) = false := decide_eq_false (by omega)
          have e5 : decide ((n : Int) > 131) = false := decide_eq_false (by omega)
          have hwla : IntKind.i64.wrap ((b.length : Int) - (a : Int)) = (b.length : Int) - a := wrap64_of (by omega) (by omega)
          have e6 : decide ((n : Int) > (b.length : Int) - a) = false := decide_eq_false (by omega)
          have e7 : decide (depth < 1) = false := decide_eq_false (by omega)
          have hwan : IntKind.i64.wrap ((a : Int) + (n : Int)) = ((a + n : Nat) : Int) := by rw [wrap64_of (by omega) (by omega)]; omega
          repeat (first | (refine aw_seq ?_) | (refine aw_reg0 (by simp only [SZ, Nat.reduceAdd]; exact rfl) ?_) | (refine aw_reg (by decide +kernel) (by simp only [SZ, Nat.reduceAdd]; exact rfl) ?_) | (refine aw_regS (by decide +kernel) (by simp only [SZ, Nat.reduceAdd]; exact rfl) ?_) | (refine arl_nil ?_) | (refine aw_skip ?_) | (refine aw_block ?_) | (refine aw_exit ?_) | (refine aw_ret ?_) | (refine arl_cons rfl rfl (by simp +decide only [aop, abuiltin, aeval, aintBin, bin_int, aload_bump, SS, reduceIte, reduceCtorEq, faT0, faT1, faT2, o0, o1, o2, q0, e1, e2, f7, e3, e4, e5, f0, hln, hwla, e6, f1, e7]; exact rfl) (by first | rfl | with_reducible assumption) rfl ?_) | (refine arl_none rfl rfl (by simp +decide only [aop, abuiltin, aeval, aintBin, bin_int, aload_bump, SS, reduceIte, reduceCtorEq, faT0, faT1, faT2, o0, o1, o2, q0, e1, e2, f7, e3, e4, e5, f0, hln, hwla, e6, f1, e7]; exact rfl) rfl rfl ?_) | (refine arl_off rfl rfl ?_) | (refine aw_condT (by simp +decide only [aop, abuiltin, aeval, aintBin, bin_int, aload_bump, SS, reduceIte, reduceCtorEq, faT0, faT1, faT2, o0, o1, o2, q0, e1, e2, f7, e3, e4, e5, f0, hln, hwla, e6, f1, e7]; first | done | exact rfl) ?_) | (refine aw_condF (by simp +decide only [aop, abuiltin, aeval, aintBin, bin_int, aload_bump, SS, reduceIte, reduceCtorEq, faT0, faT1, faT2, o0, o1, o2, q0, e1, e2, f7, e3, e4, e5, f0, hln, hwla, e6, f1, e7]; first | done | exact rfl) ?_))
          refine AW.mono (AW.wf (aw_rounds_wf (fun m' fr' s' => Ext s3 s' ∧ ∃ k2 : Nat, k2 ≤ n ∧ m' = n - k2 ∧ fr' 0 = v ∧ fr' 1 = i64 depth ∧ fr' 5 = x ∧ fr' 6 = i64 0 ∧ fr' 7 = i64 a ∧ fr' 29 = x ∧ fr' 30 = i64 ts.length ∧ fr' 31 = i64 k ∧ fr' 9 = .ptr ((sx.bump 1).n + (0 + 1 + 1 + 1)) 0 ∧ fr' 10 = i64 k2)
            (Q := fun e fr' s' => e = .exit 2 ∧ Ext s3 s' ∧ fr' 0 = v ∧ fr' 1 = i64 depth ∧ fr' 5 = x ∧ fr' 6 = i64 0 ∧ fr' 7 = i64 a ∧ fr' 29 = x ∧ fr' 30 = i64 ts.length ∧ fr' 31 = i64 k ∧ fr' 9 = .ptr ((sx.bump 1).n + (0 + 1 + 1 + 1)) 0) ?_ n _ _ (by repeat (first | assumption | (refine WF.bump ?_ _))) ?_) (by repeat (first | assumption | (refine WF.bump ?_ _)))) ?_
          · rintro m' fr' s' hws' ⟨hE', k2, hk2, rfl, f0, f1, f5, f6, f7, f29, f30, f31, f9, f10⟩
            obtain ⟨p0, p1, p2, p3⟩ := tkLd (hE'.get _ _ hg3 (fun h => h))
            simp only [hte] at p0 p1 p2
            have hb' := hb3.up hE'
            by_cases hkn : k2 < n
            · have z1 : decide ((k2 : Int) < (n : Int)) = true := decide_eq_true (by omega)
              have hw1 : IntKind.i64.wrap ((a : Int) + (k2 : Int)) = ((a + k2 : Nat) : Int) := by rw [wrap64_of (by omega) (by omega)]; omega
              have hw2 : IntKind.i64.wrap (((a + k2 : Nat) : Int) - (dist : Int)) = ((a - dist + k2 : Nat) : Int) := by rw [wrap64_of (by omega) (by omega)]; omega
              have hwk2 := wrap_succ (k := k2) (by omega)
              obtain ⟨y1, b1, b2, b3⟩ := hb'.atN .i64 (a + k2) (by omega)
              obtain ⟨y2, b4, b5, b6⟩ := hb'.atN .i64 (a - dist + k2) (by omega)
              have hal := c8 k2 hkn
              rw [getD_in (show a - dist + k2 < b.length by omega), getD_in (show a + k2 < b.length by omega)] at hal
              have z2 : (b[a + k2] != b[a - dist + k2]) = false := by simp [hal]
              repeat (first | (refine aw_seq ?_) | (refine aw_reg0 (by simp only [SZ, Nat.reduceAdd]; exact rfl) ?_) | (refine aw_reg (by decide +kernel) (by simp only [SZ, Nat.reduceAdd]; exact rfl) ?_) | (refine aw_regS (by decide +kernel) (by simp only [SZ, Nat.reduceAdd]; exact rfl) ?_) | (refine arl_nil ?_) | (refine aw_skip ?_) | (refine aw_block ?_) | (refine aw_exit ?_) | (refine aw_ret ?_) | (refine arl_cons rfl rfl (by simp +decide only [aop, abuiltin, aeval, aintBin, bin_int, aload_bump, SS, reduceIte, reduceCtorEq, f10, f9, faT1, faT2, p1, p2, z1, f0, f7, hw1, b1, b3, hw2, b4, b6, z2, hwk2]; exact rfl) (by first | rfl | with_reducible assumption) rfl ?_) | (refine arl_none rfl rfl (by simp +decide only [aop, abuiltin, aeval, aintBin, bin_int, aload_bump, SS, reduceIte, reduceCtorEq, f10, f9, faT1, faT2, p1, p2, z1, f0, f7, hw1, b1, b3, hw2, b4, b6, z2, hwk2]; exact rfl) rfl rfl ?_) | (refine arl_off rfl rfl ?_) | (refine aw_condT (by simp +decide only [aop, abuiltin, aeval, aintBin, bin_int, aload_bump, SS, reduceIte, reduceCtorEq, f10, f9, faT1, faT2, p1, p2, z1, f0, f7, hw1, b1, b3, hw2, b4, b6, z2, hwk2]; first | done | exact rfl) ?_) | (refine aw_condF (by simp +decide only [aop, abuiltin, aeval, aintBin, bin_int, aload_bump, SS, reduceIte, reduceCtorEq, f10, f9, faT1, faT2, p1, p2, z1, f0, f7, hw1, b1, b3, hw2, b4, b6, z2, hwk2]; first | done | exact rfl) ?_))
              exact ⟨n - (k2 + 1), by omega, hE'.trans (by repeat (first | exact Keeps.refl _ _ | (refine Keeps.bumpR ?_ _))), k2 + 1, by omega, rfl, f0, f1, f5, f6, f7, f29, f30, f31, f9, rfl⟩
            · have z1 : decide ((k2 : Int) < (n : Int)) = false := decide_eq_false (by omega)
              repeat (first | (refine aw_seq ?_) | (refine aw_reg0 (by simp only [SZ, Nat.reduceAdd]; exact rfl) ?_) | (refine aw_reg (by decide +kernel) (by simp only [SZ, Nat.reduceAdd]; exact rfl) ?_) | (refine aw_regS (by decide +kernel) (by simp only [SZ, Nat.reduceAdd]; exact rfl) ?_) | (refine arl_nil ?_) | (refine aw_skip ?_) | (refine aw_block ?_) | (refine aw_exit ?_) | (refine aw_ret ?_) | (refine arl_cons rfl rfl (by simp +decide only [aop, abuiltin, aeval, aintBin, bin_int, aload_bump, SS, reduceIte, reduceCtorEq, f10, f9, faT2, p2, z1]; exact rfl) (by first | rfl | with_reducible assumption) rfl ?_) | (refine arl_none rfl rfl (by simp +decide only [aop, abuiltin, aeval, aintBin, bin_int, aload_bump, SS, reduceIte, reduceCtorEq, f10, f9, faT2, p2, z1]; exact rfl) rfl rfl ?_) | (refine arl_off rfl rfl ?_) | (refine aw_condT (by simp +decide only [aop, abuiltin, aeval, aintBin, bin_int, aload_bump, SS, reduceIte, reduceCtorEq, f10, f9, faT2, p2, z1]; first | done | exact rfl) ?_) | (refine aw_condF (by simp +decide only [aop, abuiltin, aeval, aintBin, bin_int, aload_bump, SS, reduceIte, reduceCtorEq, f10, f9, faT2, p2, z1]; first | done | exact rfl) ?_))
              exact ⟨rfl, hE'.trans (by repeat (first | exact Keeps.refl _ _ | (refine Keeps.bumpR ?_ _))), f0, f1, f5, f6, f7, f29, f30, f31, f9⟩
          · exact ⟨(by repeat (first | exact Keeps.refl _ _ | (refine Keeps.bumpR ?_ _))), 0, by omega, rfl, f0, f1, f5, f6, f7, f29, f30, f31, rfl, rfl⟩
          rintro e9 fr9 s5 ⟨hw5, hn5, rfl, hE5, f0, f1, f5, f6, f7, f29, f30, f31, f9⟩
          obtain ⟨p0, p1, p2, p3⟩ := tkLd (hE5.get _ _ hg3 (fun h => h))
          simp only [hte] at p0 p1 p2
          have hb5 := hb3.up hE5
          replace hE5 : Ext sx s5 := hE3.trans hE5
          have hwad2 : IntKind.i64.wrap (((a + n : Nat) : Int) - (dist : Int)) = ((a - dist + n : Nat) : Int) := by rw [wrap64_of (by omega) (by omega)]; omega
          by_cases h131 : n < 131
          · have z1 : decide ((n : Int) < 131) = true := decide_eq_true (by omega)
            by_cases hlb : a + n < b.length
            · have z2 : decide (((a + n : Nat) : Int) < (b.length : Int)) = true := decide_eq_true (by omega)
              obtain ⟨y1, b1, b2, b3⟩ := hb5.atN .i64 (a + n) hlb
              obtain ⟨y2, b4, b5, b6⟩ := hb5.atN .i64 (a - dist + n) (by omega)
              have hne := c9 h131 hlb
              rw [getD_in (show a - dist + n < b.length by omega), getD_in (show a + n < b.length by omega)] at hne
              have z3 : (b[a + n] == b[a - dist + n]) = false := by rw [beq_eq_false_iff_ne]; exact fun h => hne h.symm
              repeat (first | (refine aw_seq ?_) | (refine aw_reg0 (by simp only [SZ, Nat.reduceAdd]; exact rfl) ?_) | (refine aw_reg (by decide +kernel) (by simp only [SZ, Nat.reduceAdd]; exact rfl) ?_) | (refine aw_regS (by decide +kernel) (by simp only [SZ, Nat.reduceAdd]; exact rfl) ?_) | (refine arl_nil ?_) | (refine aw_skip ?_) | (refine aw_block ?_) | (refine aw_exit ?_) | (refine aw_ret ?_) | (refine arl_cons rfl rfl (by simp +decide only [aop, abuiltin, aeval, aintBin, bin_int, aload_bump, SS, reduceIte, reduceCtorEq, f7, f9, faT1, faT2, p1, p2, hwan, z1, f0, hln, z2, b1, b3, hwad2, b4, b6, z3, f31, hwk]; exact rfl) (by first | rfl | with_reducible assumption) rfl ?_) | (refine arl_none rfl rfl (by simp +decide only [aop, abuiltin, aeval, aintBin, bin_int, aload_bump, SS, reduceIte, reduceCtorEq, f7, f9, faT1, faT2, p1, p2, hwan, z1, f0, hln, z2, b1, b3, hwad2, b4, b6, z3, f31, hwk]; exact rfl) rfl rfl ?_) | (refine arl_off rfl rfl ?_) | (refine aw_condT (by simp +decide only [aop, abuiltin, aeval, aintBin, bin_int, aload_bump, SS, reduceIte, reduceCtorEq, f7, f9, faT1, faT2, p1, p2, hwan, z1, f0, hln, z2, b1, b3, hwad2, b4, b6, z3, f31, hwk]; first | done | exact rfl) ?_) | (refine aw_condF (by simp +decide only [aop, abuiltin, aeval, aintBin, bin_int, aload_bump, SS, reduceIte, reduceCtorEq, f7, f9, faT1, faT2, p1, p2, hwan, z1, f0, hln, z2, b1, b3, hwad2, b4, b6, z3, f31, hwk]; first | done | exact rfl) ?_))
              refine ⟨ts.length - (k + 1), by omega, (hE.trans hE5).trans (by repeat (first | exact Keeps.refl _ _ | (refine Keeps.bumpR ?_ _))), k + 1, by omega, rfl, f0, f1, f5, f6, ?_, f29, f30, rfl⟩
              rw [hpos']
              rfl
            · have z2 : decide (((a + n : Nat) : Int) < (b.length : Int)) = false := decide_eq_false (by omega)
              repeat (first | (refine aw_seq ?_) | (refine aw_reg0 (by simp only [SZ, Nat.reduceAdd]; exact rfl) ?_) | (refine aw_reg (by decide +kernel) (by simp only [SZ, Nat.reduceAdd]; exact rfl) ?_) | (refine aw_regS (by decide +kernel) (by simp only [SZ, Nat.reduceAdd]; exact rfl) ?_) | (refine arl_nil ?_) | (refine aw_skip ?_) | (refine aw_block ?_) | (refine aw_exit ?_) | (refine aw_ret ?_) | (refine arl_cons rfl rfl (by simp +decide only [aop, abuiltin, aeval, aintBin, bin_int, aload_bump, SS, reduceIte, reduceCtorEq, f7, f9, faT1, faT2, p1, p2, hwan, z1, f0, hln, z2, f31, hwk]; exact rfl) (by first | rfl | with_reducible assumption) rfl ?_) | (refine arl_none rfl rfl (by simp +decide only [aop, abuiltin, aeval, aintBin, bin_int, aload_bump, SS, reduceIte, reduceCtorEq, f7, f9, faT1, faT2, p1, p2, hwan, z1, f0, hln, z2, f31, hwk]; exact rfl) rfl rfl ?_) | (refine arl_off rfl rfl ?_) | (refine aw_condT (by simp +decide only [aop, abuiltin, aeval, aintBin, bin_int, aload_bump, SS, reduceIte, reduceCtorEq, f7, f9, faT1, faT2, p1, p2, hwan, z1, f0, hln, z2, f31, hwk]; first | done | exact rfl) ?_) | (refine aw_condF (by simp +decide only [aop, abuiltin, aeval, aintBin, bin_int, aload_bump, SS, reduceIte, reduceCtorEq, f7, f9, faT1, faT2, p1, p2, hwan, z1, f0, hln, z2, f31, hwk]; first | done | exact rfl) ?_))
              refine ⟨ts.length - (k + 1), by omega, (hE.trans hE5).trans (by repeat (first | exact Keeps.refl _ _ | (refine Keeps.bumpR ?_ _))), k + 1, by omega, rfl, f0, f1, f5, f6, ?_, f29, f30, rfl⟩
              rw [hpos']
              rfl
          · have z1 : decide ((n : Int) < 131) = false := decide_eq_false (by omega)
            repeat (first | (refine aw_seq ?_) | (refine aw_reg0 (by simp only [SZ, Nat.reduceAdd]; exact rfl) ?_) | (refine aw_reg (by decide +kernel) (by simp only [SZ, Nat.reduceAdd]; exact rfl) ?_) | (refine aw_regS (by decide +kernel) (by simp only [SZ, Nat.reduceAdd]; exact rfl) ?_) | (refine arl_nil ?_) | (refine aw_skip ?_) | (refine aw_block ?_) | (refine aw_exit ?_) | (refine aw_ret ?_) | (refine arl_cons rfl rfl (by simp +decide only [aop, abuiltin, aeval, aintBin, bin_int, aload_bump, SS, reduceIte, reduceCtorEq, f7, f9, faT1, faT2, p1, p2, hwan, z1, f31, hwk]; exact rfl) (by first | rfl | with_reducible assumption) rfl ?_) | (refine arl_none rfl rfl (by simp +decide only [aop, abuiltin, aeval, aintBin, bin_int, aload_bump, SS, reduceIte, reduceCtorEq, f7, f9, faT1, faT2, p1, p2, hwan, z1, f31, hwk]; exact rfl) rfl rfl ?_) | (refine arl_off rfl rfl ?_) | (refine aw_condT (by simp +decide only [aop, abuiltin, aeval, aintBin, bin_int, aload_bump, SS, reduceIte, reduceCtorEq, f7, f9, faT1, faT2, p1, p2, hwan, z1, f31, hwk]; first | done | exact rfl) ?_) | (refine aw_condF (by simp +decide only [aop, abuiltin, aeval, aintBin, bin_int, aload_bump, SS, reduceIte, reduceCtorEq, f7, f9, faT1, faT2, p1, p2, hwan, z1, f31, hwk]; first | done | exact rfl) ?_))
            refine ⟨ts.length - (k + 1), by omega, (hE.trans hE5).trans (by repeat (first | exact Keeps.refl _ _ | (refine Keeps.bumpR ?_ _))), k + 1, by omega, rfl, f0, f1, f5, f6, ?_, f29, f30, rfl⟩
            rw [hpos']
            rfl
      · have d2 : decide ((k : Int) < (ts.length : Int)) = false := decide_eq_false (by omega)
        rw [List.take_of_length_le (by omega), ← hend] at f7
        have q0 : ((0 : Int) == 0) = true := by decide
        have q3 : ((b.length : Int) == (b.length : Int)) = true := by simp
        repeat (first | (refine aw_seq ?_) | (refine aw_reg0 (by simp only [SZ, Nat.reduceAdd]; exact rfl) ?_) | (refine aw_reg (by decide +kernel) (by simp only [SZ, Nat.reduceAdd]; exact rfl) ?_) | (refine aw_regS (by decide +kernel) (by simp only [SZ, Nat.reduceAdd]; exact rfl) ?_) | (refine arl_nil ?_) | (refine aw_skip ?_) | (refine aw_block ?_) | (refine aw_exit ?_) | (refine aw_ret ?_) | (refine arl_cons rfl rfl (by simp +decide only [aop, abuiltin, aeval, aintBin, bin_int, aload_bump, SS, reduceIte, reduceCtorEq, f30, f31, d2, f6, q0, f7, f0, hln, q3]; exact rfl) (by first | rfl | with_reducible assumption) rfl ?_) | (refine arl_none rfl rfl (by simp +decide only [aop, abuiltin, aeval, aintBin, bin_int, aload_bump, SS, reduceIte, reduceCtorEq, f30, f31, d2, f6, q0, f7, f0, hln, q3]; exact rfl) rfl rfl ?_) | (refine arl_off rfl rfl ?_) | (refine aw_condT (by simp +decide only [aop, abuiltin, aeval, aintBin, bin_int, aload_bump, SS, reduceIte, reduceCtorEq, f30, f31, d2, f6, q0, f7, f0, hln, q3]; first | done | exact rfl) ?_) | (refine aw_condF (by simp +decide only [aop, abuiltin, aeval, aintBin, bin_int, aload_bump, SS, reduceIte, reduceCtorEq, f30, f31, d2, f6, q0, f7, f0, hln, q3]; first | done | exact rfl) ?_))
        exact ⟨.inr rfl, _, rfl, rfl⟩
    · exact ⟨(by repeat (first | exact Keeps.refl _ _ | (refine Keeps.bumpR ?_ _))), 0, by omega, rfl, rfl, rfl, rfl, rfl, rfl, rfl, rfl, rfl⟩
theorem PressGreedy_small {st : St} (hw : WF st) {v : AV} {b : List Int} (h : RdL st (fun _ => True) 1 (fun cs n => cs = [.pl (.int .u8 n)]) v b) (g : ∀ x ∈ b, (Lit.int .u8 x).wf = true) (depth : Int) (g2 : (Lit.int .i64 depth).wf = true) (hb : (b.map fun _ => 1).sum + 1 + 1 ≤ 1048576) :
    ACalls Try.prog 7 [v, i64 depth] st (fun r s => r = .pl (.bool true)) := by
  rw [sum_1] at hb
  exact pgreedy_ok hw depth (RdL.bytes h) (by omega)
end Go.Proofs.Ytoohookgimkhbaa.Ra
