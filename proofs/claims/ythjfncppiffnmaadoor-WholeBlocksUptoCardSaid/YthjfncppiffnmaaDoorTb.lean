/- token.one, token.carry. -/
import Derived.Test.YthjfncppiffnmaaDoorTa
namespace Go.Proofs.YthjfncppiffnmaaDoor.Ra
open Go Go.RowKit
set_option linter.unusedVariables false
set_option linter.unusedSimpArgs false
set_option maxRecDepth 10000
theorem ofIntN {w : Nat} {x : Int} {a : Nat} (hx : x % ((2 ^ w : Nat) : Int) = a) : (BitVec.ofInt w x).toNat = a := by
  rw [BitVec.toNat_ofInt, hx, Int.toNat_natCast]
theorem or_i64_low {x y : Int} (hx0 : 0 ≤ x) (hx : x % 256 = 0) (hx1 : x ≤ 65280) (hy0 : 0 ≤ y) (hy : y < 256) : Go.bits .or .i64 x y = x + y := by
  obtain ⟨n, rfl⟩ := Int.eq_ofNat_of_zero_le hx0
  obtain ⟨m, rfl⟩ := Int.eq_ofNat_of_zero_le hy0
  have e : n ||| m = n + m := by
    have h1 : n = (n / 2 ^ 8) <<< 8 := by rw [Nat.shiftLeft_eq]; omega
    rw [h1, Nat.shiftLeft_add_eq_or_of_lt (by omega)]
  have p : ((2 ^ IntKind.i64.bits : Nat) : Int) = 18446744073709551616 := rfl
  simp only [Go.bits, BitVec.toNat_or, ofIntN (w := IntKind.i64.bits) (x := (n : Int)) (a := n) (by rw [p]; omega), ofIntN (w := IntKind.i64.bits) (x := (m : Int)) (a := m) (by rw [p]; omega), e]
  rw [wrap64_of (by omega) (by omega)]
  omega
theorem ares3 {P : Program} {st : St} {fn : Func} {fr : AFr} {p q a b : Nat} {x : AV} (hr : fn.results = #[.cell p q, .tmp a, .tmp b]) (h : aload P st q (fr p) = some x) : aresults P st fn fr = some (.tup [x, fr a, fr b]) := by
  simp [aresults, hr, aresult, h]
def zT : Tok := ([], 0, 0)
/-- The token at the beginning: the error, it, its length. -/
def one (b : List Int) : Int × Tok × Nat :=
  if b.getD 0 0 < 128 then
    if (b.length : Int) < b.getD 0 0 + 2 then (1, zT, 0) else (0, ((b.drop 1).take ((b.getD 0 0).toNat + 1), 0, 0), (b.getD 0 0).toNat + 2)
  else if b.length < 3 then (1, zT, 0)
  else if ill ([], b.getD 1 0 * 256 + b.getD 2 0, b.getD 0 0 - 124) = true then (50, zT, 0)
  else (0, ([], b.getD 1 0 * 256 + b.getD 2 0, b.getD 0 0 - 124), 3)
theorem bldT0 : abuild Tryd.prog TK [] = some (.agg [.pl (.slice none 0 0), i64 0, i64 0]) := by kernel_rfl
theorem bldTl {st : St} {K : Nat → Prop} {v : AV} {xs : List Int} (h : RdB st K v xs) : abuild Tryd.prog TK [(0, v)] = some (.agg [v, i64 0, i64 0]) := by
  rcases h.isSl with ⟨q, n, c, rfl⟩ | ⟨i, off, n, es, rfl⟩ <;> kernel_rfl
theorem bldTc (d n : Int) : abuild Tryd.prog TK [(1, i64 d), (2, i64 n)] = some (.agg [.pl (.slice none 0 0), i64 d, i64 n]) := by kernel_rfl
theorem RdB.nilV {st : St} {K : Nat → Prop} : RdB st K (.pl (.slice none 0 0)) [] := .inl ⟨rfl, .inl ⟨_, _, rfl⟩⟩
/-- What 'one' answers. -/
def OneQ (K : Nat → Prop) (st : St) (b : List Int) (r : AV) (s : St) : Prop :=
  Ext st s ∧ ∃ c, r = .tup [.agg [c, i64 (one b).2.1.2.1, i64 (one b).2.1.2.2], i64 ((one b).2.2 : Nat), i64 (one b).1] ∧ RdB s K c (one b).2.1.1
theorem one_ok {st : St} (hw : WF st) {K : Nat → Prop} {v : AV} {b : List Int} (h : RdB st K v b) (h1 : 1 ≤ b.length) (hl : b.length ≤ 140737488355327) (hby : ∀ x ∈ b, 0 ≤ x ∧ x < 256) :
    ACalls Tryd.prog 19 [v] st (OneQ K st b) := by
  have hvs := h.solid
  have hln := h.len
  have hb0 : 0 ≤ b.getD 0 0 ∧ b.getD 0 0 < 256 := by
    rw [List.getD_eq_getElem?_getD, List.getElem?_eq_getElem (by omega)]
    exact hby _ (List.getElem_mem _)
  obtain ⟨p0, i0, i0s, i0l⟩ := h.at .i64 0 (by omega) (by omega)
  rw [show (0 : Int).toNat = 0 from rfl] at i0l
  generalize hc : b.getD 0 0 = c at hb0 i0l
  have hwc : IntKind.i64.wrap c = c := wrap64_of (by omega) (by omega)
  refine acalls_of Tryd.func19 rfl (by kernel_rfl) (by simp [hvs]) ?_
  repeat (first | (refine aw_seq ?_) | (refine aw_reg0 (by simp only [SZ, Nat.reduceAdd]; exact rfl) ?_) | (refine aw_reg (by decide +kernel) (by simp only [SZ, Nat.reduceAdd]; exact rfl) ?_) | (refine aw_regS (by decide +kernel) (by simp only [SZ, Nat.reduceAdd]; exact rfl) ?_) | (refine arl_nil ?_) | (refine aw_skip ?_) | (refine aw_block ?_) | (refine aw_exit ?_) | (refine aw_ret ?_))
  refine arl_alloc rfl rfl rfl szTK zTK (fresh hw (Nat.le_add_right _ _)) ?_
  intro s0 hn0 hwf0 hE0 hg0 hD0
  have hw0 : WF s0 := hwf0 (by repeat (first | assumption | (refine WF.bump ?_ _) | (refine WF.put ?_ (by simp only [n_bump, n_put, n_touch, n_kill] at *; omega) (by simp only [n_bump, n_put, n_touch, n_kill] at *; omega)))) (by simp only [n_bump, n_put, n_touch, n_kill] at *; omega)
  replace hE0 : Ext st s0 := Keeps.trans (show Ext st _ from (by repeat (first | exact Keeps.refl _ _ | (refine Keeps.bumpR ?_ _)))) hE0
  have hN0 : s0.n = st.n + 3 := by rw [hn0]; rfl
  have hid : st.n + 0 < s0.n := by omega
  replace i0l := aload_up hE0 i0l
  -- how a store of the answer is told
  have fin : ∀ {s s' s'' : St} {cv : AV} {t : Tok} {n : Nat} {e : Int}, Ext st s → Keeps (fun g => g = st.n + 0) s s' → s'.get (st.n + 0) = some ⟨[cv, i64 t.2.1, i64 t.2.2], TK, true, st.n + 0⟩ → Ext s' s'' → one b = (e, t, n) → (∀ q, Ext st q → RdB q K cv t.1) →
      OneQ K st b (.tup [.agg [cv, i64 t.2.1, i64 t.2.2], i64 n, i64 e]) s'' ∧ aload Tryd.prog s'' TK (.ptr (st.n + 0) 0) = some (.agg [cv, i64 t.2.1, i64 t.2.2]) := by
    intro s s' s'' cv t n e h1 h2 h3 h4 h5 h6
    have hx : Ext st s'' := (Keeps.call h1 h2 hw (fun g h => .inr (by omega))).trans h4
    refine ⟨⟨hx, cv, by rw [h5], by rw [h5]; exact h6 _ hx⟩, ?_⟩
    exact (tkLd (h4.get _ _ h3 (fun h => h))).2.2.2
  have hz : ∀ q, Ext st q → RdB q K (.pl (.slice none 0 0)) zT.1 := fun q _ => RdB.nilV
  by_cases hlt : c < 128
  · have d0 := decide_eq_true hlt
    have hwc2 : IntKind.i64.wrap (c + 2) = c + 2 := wrap64_of (by omega) (by omega)
    by_cases hsh : (b.length : Int) < c + 2
    · have d1 := decide_eq_true hsh
      have hone : one b = (1, zT, 0) := by unfold one; rw [hc, if_pos hlt, if_pos hsh]
      repeat (first | (refine aw_seq ?_) | (refine aw_reg0 (by simp only [SZ, Nat.reduceAdd]; exact rfl) ?_) | (refine aw_reg (by decide +kernel) (by simp only [SZ, Nat.reduceAdd]; exact rfl) ?_) | (refine aw_regS (by decide +kernel) (by simp only [SZ, Nat.reduceAdd]; exact rfl) ?_) | (refine arl_nil ?_) | (refine aw_skip ?_) | (refine aw_block ?_) | (refine aw_exit ?_) | (refine aw_ret ?_) | (refine arl_cons rfl rfl (by simp +decide only [aop, abuiltin, aeval, aintBin, bin_int, aload_bump, SS, reduceIte, reduceCtorEq, i0, i0l, conv_int Tryd.underlying5 Tryd.underlying3, hwc, d0, hln, hwc2, d1]; exact rfl) (by first | rfl | with_reducible assumption) rfl ?_) | (refine arl_none rfl rfl (by simp +decide only [aop, abuiltin, aeval, aintBin, bin_int, aload_bump, SS, reduceIte, reduceCtorEq, i0, i0l, conv_int Tryd.underlying5 Tryd.underlying3, hwc, d0, hln, hwc2, d1]; exact rfl) rfl rfl ?_) | (refine arl_off rfl rfl ?_) | (refine aw_condT (by simp +decide only [aop, abuiltin, aeval, aintBin, bin_int, aload_bump, SS, reduceIte, reduceCtorEq, i0, i0l, conv_int Tryd.underlying5 Tryd.underlying3, hwc, d0, hln, hwc2, d1]; first | done | exact rfl) ?_) | (refine aw_condF (by simp +decide only [aop, abuiltin, aeval, aintBin, bin_int, aload_bump, SS, reduceIte, reduceCtorEq, i0, i0l, conv_int Tryd.underlying5 Tryd.underlying3, hwc, d0, hln, hwc2, d1]; first | done | exact rfl) ?_))
      refine arl_cons rfl rfl (by simp +decide only [aop, abuiltin, aeval, aintBin, bin_int, aload_bump, SS, reduceIte, reduceCtorEq, bldT0]; exact rfl) (by first | rfl | with_reducible assumption) rfl ?_
      refine arl_storeW (e := TK) (cs := [.pl (.slice none 0 0), i64 0, i64 0]) rfl rfl rfl rfl rfl hg0 szTK rfl rfl rfl rfl rfl ?_
      intro s1 hn1 hwf1 hE1 hg1 hD1
      repeat (first | (refine aw_seq ?_) | (refine aw_reg0 (by simp only [SZ, Nat.reduceAdd]; exact rfl) ?_) | (refine aw_reg (by decide +kernel) (by simp only [SZ, Nat.reduceAdd]; exact rfl) ?_) | (refine aw_regS (by decide +kernel) (by simp only [SZ, Nat.reduceAdd]; exact rfl) ?_) | (refine arl_nil ?_) | (refine aw_skip ?_) | (refine aw_block ?_) | (refine aw_exit ?_) | (refine aw_ret ?_) | (refine arl_cons rfl rfl (by simp +decide only [aop, abuiltin, aeval, aintBin, bin_int, aload_bump, SS, reduceIte, reduceCtorEq]; exact rfl) (by first | rfl | with_reducible assumption) rfl ?_) | (refine arl_none rfl rfl (by simp +decide only [aop, abuiltin, aeval, aintBin, bin_int, aload_bump, SS, reduceIte, reduceCtorEq]; exact rfl) rfl rfl ?_) | (refine arl_off rfl rfl ?_) | (refine aw_condT (by simp +decide only [aop, abuiltin, aeval, aintBin, bin_int, aload_bump, SS, reduceIte, reduceCtorEq]; first | done | exact rfl) ?_) | (refine aw_condF (by simp +decide only [aop, abuiltin, aeval, aintBin, bin_int, aload_bump, SS, reduceIte, reduceCtorEq]; first | done | exact rfl) ?_))
      exact ⟨.inr rfl, _, ares3 rfl (fin (hE0.trans (show Ext s0 _ from (by repeat (first | exact Keeps.refl _ _ | (refine Keeps.bumpR ?_ _))))) hE1 hg1 (by repeat (first | exact Keeps.refl _ _ | (refine Keeps.bumpR ?_ _))) hone hz).2, (fin (hE0.trans (show Ext s0 _ from (by repeat (first | exact Keeps.refl _ _ | (refine Keeps.bumpR ?_ _))))) hE1 hg1 (by repeat (first | exact Keeps.refl _ _ | (refine Keeps.bumpR ?_ _))) hone hz).1⟩
    · have d1 := decide_eq_false hsh
      obtain ⟨k, rfl⟩ : ∃ k : Nat, c = (k : Int) := ⟨c.toNat, by omega⟩
      have hone : one b = (0, ((b.drop 1).take (k + 1), 0, 0), k + 2) := by unfold one; rw [hc, if_pos hlt, if_neg hsh, Int.toNat_natCast]
      have hwc3 : ((k : Int) + 2) = ((k + 2 : Nat) : Int) := by omega
      replace hwc2 : IntKind.i64.wrap ((k : Int) + 2) = ((k + 2 : Nat) : Int) := by rw [hwc2, hwc3]
      obtain ⟨u, hcut, hus, hU⟩ := h.cuts (some (i64 1)) (some (i64 ((k + 2 : Nat) : Int))) 1 (k + 2) (.inl rfl) (.inl rfl) (by omega) (by omega)
      rw [show k + 2 - 1 = k + 1 by omega] at hU
      have hbl := bldTl hU
      rw [hwc3] at d1
      repeat (first | (refine aw_seq ?_) | (refine aw_reg0 (by simp only [SZ, Nat.reduceAdd]; exact rfl) ?_) | (refine aw_reg (by decide +kernel) (by simp only [SZ, Nat.reduceAdd]; exact rfl) ?_) | (refine aw_regS (by decide +kernel) (by simp only [SZ, Nat.reduceAdd]; exact rfl) ?_) | (refine arl_nil ?_) | (refine aw_skip ?_) | (refine aw_block ?_) | (refine aw_exit ?_) | (refine aw_ret ?_) | (refine arl_cons rfl rfl (by simp +decide only [aop, abuiltin, aeval, aintBin, bin_int, aload_bump, SS, reduceIte, reduceCtorEq, i0, i0l, conv_int Tryd.underlying5 Tryd.underlying3, hwc, d0, hln, hwc2, d1, hcut]; exact rfl) (by first | rfl | with_reducible assumption) rfl ?_) | (refine arl_none rfl rfl (by simp +decide only [aop, abuiltin, aeval, aintBin, bin_int, aload_bump, SS, reduceIte, reduceCtorEq, i0, i0l, conv_int Tryd.underlying5 Tryd.underlying3, hwc, d0, hln, hwc2, d1, hcut]; exact rfl) rfl rfl ?_) | (refine arl_off rfl rfl ?_) | (refine aw_condT (by simp +decide only [aop, abuiltin, aeval, aintBin, bin_int, aload_bump, SS, reduceIte, reduceCtorEq, i0, i0l, conv_int Tryd.underlying5 Tryd.underlying3, hwc, d0, hln, hwc2, d1, hcut]; first | done | exact rfl) ?_) | (refine aw_condF (by simp +decide only [aop, abuiltin, aeval, aintBin, bin_int, aload_bump, SS, reduceIte, reduceCtorEq, i0, i0l, conv_int Tryd.underlying5 Tryd.underlying3, hwc, d0, hln, hwc2, d1, hcut]; first | done | exact rfl) ?_))
      refine arl_cons rfl rfl (by simp +decide only [aop, abuiltin, aeval, aintBin, bin_int, aload_bump, SS, reduceIte, reduceCtorEq, hbl]; exact rfl) (by first | rfl | with_reducible assumption) rfl ?_
      repeat (first | (refine aw_seq ?_) | (refine aw_reg0 (by simp only [SZ, Nat.reduceAdd]; exact rfl) ?_) | (refine aw_reg (by decide +kernel) (by simp only [SZ, Nat.reduceAdd]; exact rfl) ?_) | (refine aw_regS (by decide +kernel) (by simp only [SZ, Nat.reduceAdd]; exact rfl) ?_) | (refine arl_nil ?_) | (refine aw_skip ?_) | (refine aw_block ?_) | (refine aw_exit ?_) | (refine aw_ret ?_) | (refine arl_cons rfl rfl (by simp +decide only [aop, abuiltin, aeval, aintBin, bin_int, aload_bump, SS, reduceIte, reduceCtorEq, hwc2]; exact rfl) (by first | rfl | with_reducible assumption) rfl ?_) | (refine arl_none rfl rfl (by simp +decide only [aop, abuiltin, aeval, aintBin, bin_int, aload_bump, SS, reduceIte, reduceCtorEq, hwc2]; exact rfl) rfl rfl ?_) | (refine arl_off rfl rfl ?_) | (refine aw_condT (by simp +decide only [aop, abuiltin, aeval, aintBin, bin_int, aload_bump, SS, reduceIte, reduceCtorEq, hwc2]; first | done | exact rfl) ?_) | (refine aw_condF (by simp +decide only [aop, abuiltin, aeval, aintBin, bin_int, aload_bump, SS, reduceIte, reduceCtorEq, hwc2]; first | done | exact rfl) ?_))
      refine arl_storeW (e := TK) (cs := [u, i64 0, i64 0]) rfl rfl rfl rfl rfl hg0 szTK rfl rfl rfl (by simp [hU.cell.2]; exact rfl) rfl ?_
      intro s1 hn1 hwf1 hE1 hg1 hD1
      repeat (first | (refine aw_seq ?_) | (refine aw_reg0 (by simp only [SZ, Nat.reduceAdd]; exact rfl) ?_) | (refine aw_reg (by decide +kernel) (by simp only [SZ, Nat.reduceAdd]; exact rfl) ?_) | (refine aw_regS (by decide +kernel) (by simp only [SZ, Nat.reduceAdd]; exact rfl) ?_) | (refine arl_nil ?_) | (refine aw_skip ?_) | (refine aw_block ?_) | (refine aw_exit ?_) | (refine aw_ret ?_) | (refine arl_cons rfl rfl (by simp +decide only [aop, abuiltin, aeval, aintBin, bin_int, aload_bump, SS, reduceIte, reduceCtorEq]; exact rfl) (by first | rfl | with_reducible assumption) rfl ?_) | (refine arl_none rfl rfl (by simp +decide only [aop, abuiltin, aeval, aintBin, bin_int, aload_bump, SS, reduceIte, reduceCtorEq]; exact rfl) rfl rfl ?_) | (refine arl_off rfl rfl ?_) | (refine aw_condT (by simp +decide only [aop, abuiltin, aeval, aintBin, bin_int, aload_bump, SS, reduceIte, reduceCtorEq]; first | done | exact rfl) ?_) | (refine aw_condF (by simp +decide only [aop, abuiltin, aeval, aintBin, bin_int, aload_bump, SS, reduceIte, reduceCtorEq]; first | done | exact rfl) ?_))
      exact ⟨.inr rfl, _, ares3 rfl (fin (t := ((b.drop 1).take (k + 1), 0, 0)) (hE0.trans (show Ext s0 _ from (by repeat (first | exact Keeps.refl _ _ | (refine Keeps.bumpR ?_ _))))) hE1 hg1 (by repeat (first | exact Keeps.refl _ _ | (refine Keeps.bumpR ?_ _))) hone (fun q hq => hU.up hq)).2, (fin (t := ((b.drop 1).take (k + 1), 0, 0)) (hE0.trans (show Ext s0 _ from (by repeat (first | exact Keeps.refl _ _ | (refine Keeps.bumpR ?_ _))))) hE1 hg1 (by repeat (first | exact Keeps.refl _ _ | (refine Keeps.bumpR ?_ _))) hone (fun q hq => hU.up hq)).1⟩
  · have d0 := decide_eq_false hlt
    by_cases h3 : b.length < 3
    · have d1 : decide ((b.length : Int) < 3) = true := decide_eq_true (by omega)
      have hone : one b = (1, zT, 0) := by unfold one; rw [hc, if_neg hlt, if_pos h3]
      repeat (first | (refine aw_seq ?_) | (refine aw_reg0 (by simp only [SZ, Nat.reduceAdd]; exact rfl) ?_) | (refine aw_reg (by decide +kernel) (by simp only [SZ, Nat.reduceAdd]; exact rfl) ?_) | (refine aw_regS (by decide +kernel) (by simp only [SZ, Nat.reduceAdd]; exact rfl) ?_) | (refine arl_nil ?_) | (refine aw_skip ?_) | (refine aw_block ?_) | (refine aw_exit ?_) | (refine aw_ret ?_) | (refine arl_cons rfl rfl (by simp +decide only [aop, abuiltin, aeval, aintBin, bin_int, aload_bump, SS, reduceIte, reduceCtorEq, i0, i0l, conv_int Tryd.underlying5 Tryd.underlying3, hwc, d0, hln, d1]; exact rfl) (by first | rfl | with_reducible assumption) rfl ?_) | (refine arl_none rfl rfl (by simp +decide only [aop, abuiltin, aeval, aintBin, bin_int, aload_bump, SS, reduceIte, reduceCtorEq, i0, i0l, conv_int Tryd.underlying5 Tryd.underlying3, hwc, d0, hln, d1]; exact rfl) rfl rfl ?_) | (refine arl_off rfl rfl ?_) | (refine aw_condT (by simp +decide only [aop, abuiltin, aeval, aintBin, bin_int, aload_bump, SS, reduceIte, reduceCtorEq, i0, i0l, conv_int Tryd.underlying5 Tryd.underlying3, hwc, d0, hln, d1]; first | done | exact rfl) ?_) | (refine aw_condF (by simp +decide only [aop, abuiltin, aeval, aintBin, bin_int, aload_bump, SS, reduceIte, reduceCtorEq, i0, i0l, conv_int Tryd.underlying5 Tryd.underlying3, hwc, d0, hln, d1]; first | done | exact rfl) ?_))
      refine arl_cons rfl rfl (by simp +decide only [aop, abuiltin, aeval, aintBin, bin_int, aload_bump, SS, reduceIte, reduceCtorEq, bldT0]; exact rfl) (by first | rfl | with_reducible assumption) rfl ?_
      refine arl_storeW (e := TK) (cs := [.pl (.slice none 0 0), i64 0, i64 0]) rfl rfl rfl rfl rfl hg0 szTK rfl rfl rfl rfl rfl ?_
      intro s1 hn1 hwf1 hE1 hg1 hD1
      repeat (first | (refine aw_seq ?_) | (refine aw_reg0 (by simp only [SZ, Nat.reduceAdd]; exact rfl) ?_) | (refine aw_reg (by decide +kernel) (by simp only [SZ, Nat.reduceAdd]; exact rfl) ?_) | (refine aw_regS (by decide +kernel) (by simp only [SZ, Nat.reduceAdd]; exact rfl) ?_) | (refine arl_nil ?_) | (refine aw_skip ?_) | (refine aw_block ?_) | (refine aw_exit ?_) | (refine aw_ret ?_) | (refine arl_cons rfl rfl (by simp +decide only [aop, abuiltin, aeval, aintBin, bin_int, aload_bump, SS, reduceIte, reduceCtorEq]; exact rfl) (by first | rfl | with_reducible assumption) rfl ?_) | (refine arl_none rfl rfl (by simp +decide only [aop, abuiltin, aeval, aintBin, bin_int, aload_bump, SS, reduceIte, reduceCtorEq]; exact rfl) rfl rfl ?_) | (refine arl_off rfl rfl ?_) | (refine aw_condT (by simp +decide only [aop, abuiltin, aeval, aintBin, bin_int, aload_bump, SS, reduceIte, reduceCtorEq]; first | done | exact rfl) ?_) | (refine aw_condF (by simp +decide only [aop, abuiltin, aeval, aintBin, bin_int, aload_bump, SS, reduceIte, reduceCtorEq]; first | done | exact rfl) ?_))
      exact ⟨.inr rfl, _, ares3 rfl (fin (hE0.trans (show Ext s0 _ from (by repeat (first | exact Keeps.refl _ _ | (refine Keeps.bumpR ?_ _))))) hE1 hg1 (by repeat (first | exact Keeps.refl _ _ | (refine Keeps.bumpR ?_ _))) hone hz).2, (fin (hE0.trans (show Ext s0 _ from (by repeat (first | exact Keeps.refl _ _ | (refine Keeps.bumpR ?_ _))))) hE1 hg1 (by repeat (first | exact Keeps.refl _ _ | (refine Keeps.bumpR ?_ _))) hone hz).1⟩
    · have d1 : decide ((b.length : Int) < 3) = false := decide_eq_false (by omega)
      obtain ⟨p1, i1, i1s, i1l⟩ := h.at .i64 1 (by omega) (by omega)
      obtain ⟨p2, i2, i2s, i2l⟩ := h.at .i64 2 (by omega) (by omega)
      rw [show (1 : Int).toNat = 1 from rfl] at i1l
      rw [show (2 : Int).toNat = 2 from rfl] at i2l
      have hb1 : 0 ≤ b.getD 1 0 ∧ b.getD 1 0 < 256 := by
        rw [List.getD_eq_getElem?_getD, List.getElem?_eq_getElem (by omega)]
        exact hby _ (List.getElem_mem _)
      have hb2 : 0 ≤ b.getD 2 0 ∧ b.getD 2 0 < 256 := by
        rw [List.getD_eq_getElem?_getD, List.getElem?_eq_getElem (by omega)]
        exact hby _ (List.getElem_mem _)
      generalize hx1 : b.getD 1 0 = x1 at hb1 i1l
      generalize hx2 : b.getD 2 0 = x2 at hb2 i2l
      replace i1l := aload_up hE0 i1l
      replace i2l := aload_up hE0 i2l
      have hwx1 : IntKind.i64.wrap x1 = x1 := wrap64_of (by omega) (by omega)
      have hwx2 : IntKind.i64.wrap x2 = x2 := wrap64_of (by omega) (by omega)
      have hwsh : IntKind.i64.wrap (x1 * 2 ^ (min (8 : Int).toNat IntKind.i64.bits)) = x1 * 256 := by
        rw [show (2 : Int) ^ (min (8 : Int).toNat IntKind.i64.bits) = 256 from rfl]
        exact wrap64_of (by omega) (by omega)
      have hor : Go.bits .or .i64 (x1 * 256) x2 = x1 * 256 + x2 := or_i64_low (by omega) (by omega) (by omega) (by omega) (by omega)
      have hw1 : IntKind.i64.wrap (c - 128) = c - 128 := wrap64_of (by omega) (by omega)
      have hw2 : IntKind.i64.wrap (c - 128 + 4) = c - 124 := by rw [wrap64_of (by omega) (by omega)]; omega
      have hbc := bldTc (x1 * 256 + x2) (c - 124)
      have hsgn : decide ((8 : Int) < 0) = false := by decide
      repeat (first | (refine aw_seq ?_) | (refine aw_reg0 (by simp only [SZ, Nat.reduceAdd]; exact rfl) ?_) | (refine aw_reg (by decide +kernel) (by simp only [SZ, Nat.reduceAdd]; exact rfl) ?_) | (refine aw_regS (by decide +kernel) (by simp only [SZ, Nat.reduceAdd]; exact rfl) ?_) | (refine arl_nil ?_) | (refine aw_skip ?_) | (refine aw_block ?_) | (refine aw_exit ?_) | (refine aw_ret ?_) | (refine arl_cons rfl rfl (by simp +decide only [aop, abuiltin, aeval, aintBin, bin_int, aload_bump, SS, reduceIte, reduceCtorEq, i0, i0l, i1, i1l, i2, i2l, conv_int Tryd.underlying5 Tryd.underlying3, hwc, d0, hln, d1, hwx1, hwx2, abin, hwsh, hor, hw1, hw2]; exact rfl) (by first | rfl | with_reducible assumption) rfl ?_) | (refine arl_none rfl rfl (by simp +decide only [aop, abuiltin, aeval, aintBin, bin_int, aload_bump, SS, reduceIte, reduceCtorEq, i0, i0l, i1, i1l, i2, i2l, conv_int Tryd.underlying5 Tryd.underlying3, hwc, d0, hln, d1, hwx1, hwx2, abin, hwsh, hor, hw1, hw2]; exact rfl) rfl rfl ?_) | (refine arl_off rfl rfl ?_) | (refine aw_condT (by simp +decide only [aop, abuiltin, aeval, aintBin, bin_int, aload_bump, SS, reduceIte, reduceCtorEq, i0, i0l, i1, i1l, i2, i2l, conv_int Tryd.underlying5 Tryd.underlying3, hwc, d0, hln, d1, hwx1, hwx2, abin, hwsh, hor, hw1, hw2]; first | done | exact rfl) ?_) | (refine aw_condF (by simp +decide only [aop, abuiltin, aeval, aintBin, bin_int, aload_bump, SS, reduceIte, reduceCtorEq, i0, i0l, i1, i1l, i2, i2l, conv_int Tryd.underlying5 Tryd.underlying3, hwc, d0, hln, d1, hwx1, hwx2, abin, hwsh, hor, hw1, hw2]; first | done | exact rfl) ?_))
      refine arl_cons rfl rfl (by simp +decide only [aop, abuiltin, aeval, aintBin, bin_int, aload_bump, SS, reduceIte, reduceCtorEq, hbc]; exact rfl) (by first | rfl | with_reducible assumption) rfl ?_
      refine arl_alloc rfl rfl rfl szTK zTK (fresh hw0 (by simp only [n_bump]; omega)) ?_
      intro s1 hn1 hwf1 hE1 hg1 hD1
      have hw1' : WF s1 := hwf1 (by repeat (first | assumption | (refine WF.bump ?_ _))) (by simp only [n_bump, n_put, n_touch, n_kill] at *; omega)
      refine arl_storeW (e := TK) (cs := [.pl (.slice none 0 0), i64 (x1 * 256 + x2), i64 (c - 124)]) rfl rfl rfl rfl rfl hg1 szTK rfl rfl rfl rfl rfl ?_
      intro s2 hn2 hwf2 hE2 hg2 hD2
      have hw2' : WF s2 := hwf2 hw1'
      have hS2 : Ext s0 s2 := Keeps.call ((show Ext s0 _ from (by repeat (first | exact Keeps.refl _ _ | (refine Keeps.bumpR ?_ _)))).trans hE1) hE2 hw0 (by simp only [n_bump]; intro g h; right; omega)
      have hN2 := hS2.n
      have q3 := (tkLd hg2).2.2.2
      repeat (first | (refine aw_seq ?_) | (refine aw_reg0 (by simp only [SZ, Nat.reduceAdd]; exact rfl) ?_) | (refine aw_reg (by decide +kernel) (by simp only [SZ, Nat.reduceAdd]; exact rfl) ?_) | (refine aw_regS (by decide +kernel) (by simp only [SZ, Nat.reduceAdd]; exact rfl) ?_) | (refine arl_nil ?_) | (refine aw_skip ?_) | (refine aw_block ?_) | (refine aw_exit ?_) | (refine aw_ret ?_) | (refine arl_cons rfl rfl (by simp +decide only [aop, abuiltin, aeval, aintBin, bin_int, aload_bump, SS, reduceIte, reduceCtorEq, q3]; exact rfl) (by first | rfl | with_reducible assumption) rfl ?_) | (refine arl_none rfl rfl (by simp +decide only [aop, abuiltin, aeval, aintBin, bin_int, aload_bump, SS, reduceIte, reduceCtorEq, q3]; exact rfl) rfl rfl ?_) | (refine arl_off rfl rfl ?_) | (refine aw_condT (by simp +decide only [aop, abuiltin, aeval, aintBin, bin_int, aload_bump, SS, reduceIte, reduceCtorEq, q3]; first | done | exact rfl) ?_) | (refine aw_condF (by simp +decide only [aop, abuiltin, aeval, aintBin, bin_int, aload_bump, SS, reduceIte, reduceCtorEq, q3]; first | done | exact rfl) ?_))
      refine arl_call rfl rfl rfl rfl rfl rfl ((ill_ok (by repeat (first | assumption | (refine WF.bump ?_ _))) ([], x1 * 256 + x2, c - 124) (K := fun _ => True) RdB.nilV).wf (by repeat (first | assumption | (refine WF.bump ?_ _) | (refine WF.put ?_ (by simp only [n_bump, n_put, n_touch, n_kill] at *; omega) (by simp only [n_bump, n_put, n_touch, n_kill] at *; omega)))) |>.mono ?_)
      rintro r s3 ⟨hw3, hn3, hE3, rfl⟩
      refine ⟨by first | rfl | with_reducible assumption, ?_⟩
      replace hE3 : Ext s2 s3 := Keeps.trans (by repeat (first | assumption | exact Keeps.refl _ _ | (refine Keeps.bumpR ?_ _) | (refine Keeps.put ?_ (by assumption) (by simp only [n_bump, n_put, n_touch, n_kill] at *; omega)))) hE3
      have hN3 := hE3.n
      have hS3 := hS2.trans hE3
      have hg3 := hS3.get _ _ hg0 (fun h => h)
      have r3 := (tkLd (hE3.get _ _ hg2 (fun h => h))).2.2.2
      by_cases hi : ill ([], x1 * 256 + x2, c - 124) = true
      · have hone : one b = (50, zT, 0) := by unfold one; rw [hc, hx1, hx2, if_neg hlt, if_neg h3, if_pos hi]
        rw [hi]
        repeat (first | (refine aw_seq ?_) | (refine aw_reg0 (by simp only [SZ, Nat.reduceAdd]; exact rfl) ?_) | (refine aw_reg (by decide +kernel) (by simp only [SZ, Nat.reduceAdd]; exact rfl) ?_) | (refine aw_regS (by decide +kernel) (by simp only [SZ, Nat.reduceAdd]; exact rfl) ?_) | (refine arl_nil ?_) | (refine aw_skip ?_) | (refine aw_block ?_) | (refine aw_exit ?_) | (refine aw_ret ?_) | (refine arl_cons rfl rfl (by simp +decide only [aop, abuiltin, aeval, aintBin, bin_int, aload_bump, SS, reduceIte, reduceCtorEq]; exact rfl) (by first | rfl | with_reducible assumption) rfl ?_) | (refine arl_none rfl rfl (by simp +decide only [aop, abuiltin, aeval, aintBin, bin_int, aload_bump, SS, reduceIte, reduceCtorEq]; exact rfl) rfl rfl ?_) | (refine arl_off rfl rfl ?_) | (refine aw_condT (by simp +decide only [aop, abuiltin, aeval, aintBin, bin_int, aload_bump, SS, reduceIte, reduceCtorEq]; first | done | exact rfl) ?_) | (refine aw_condF (by simp +decide only [aop, abuiltin, aeval, aintBin, bin_int, aload_bump, SS, reduceIte, reduceCtorEq]; first | done | exact rfl) ?_))
        refine arl_cons rfl rfl (by simp +decide only [aop, abuiltin, aeval, aintBin, bin_int, aload_bump, SS, reduceIte, reduceCtorEq, bldT0]; exact rfl) (by first | rfl | with_reducible assumption) rfl ?_
        refine arl_storeW (e := TK) (cs := [.pl (.slice none 0 0), i64 0, i64 0]) rfl rfl rfl rfl rfl hg3 szTK rfl rfl rfl rfl rfl ?_
        intro s4 hn4 hwf4 hE4 hg4 hD4
        repeat (first | (refine aw_seq ?_) | (refine aw_reg0 (by simp only [SZ, Nat.reduceAdd]; exact rfl) ?_) | (refine aw_reg (by decide +kernel) (by simp only [SZ, Nat.reduceAdd]; exact rfl) ?_) | (refine aw_regS (by decide +kernel) (by simp only [SZ, Nat.reduceAdd]; exact rfl) ?_) | (refine arl_nil ?_) | (refine aw_skip ?_) | (refine aw_block ?_) | (refine aw_exit ?_) | (refine aw_ret ?_) | (refine arl_cons rfl rfl (by simp +decide only [aop, abuiltin, aeval, aintBin, bin_int, aload_bump, SS, reduceIte, reduceCtorEq]; exact rfl) (by first | rfl | with_reducible assumption) rfl ?_) | (refine arl_none rfl rfl (by simp +decide only [aop, abuiltin, aeval, aintBin, bin_int, aload_bump, SS, reduceIte, reduceCtorEq]; exact rfl) rfl rfl ?_) | (refine arl_off rfl rfl ?_) | (refine aw_condT (by simp +decide only [aop, abuiltin, aeval, aintBin, bin_int, aload_bump, SS, reduceIte, reduceCtorEq]; first | done | exact rfl) ?_) | (refine aw_condF (by simp +decide only [aop, abuiltin, aeval, aintBin, bin_int, aload_bump, SS, reduceIte, reduceCtorEq]; first | done | exact rfl) ?_))
        exact ⟨.inr rfl, _, ares3 rfl (fin (hE0.trans (hS3.trans (by repeat (first | exact Keeps.refl _ _ | (refine Keeps.bumpR ?_ _))))) hE4 hg4 (by repeat (first | exact Keeps.refl _ _ | (refine Keeps.bumpR ?_ _))) hone hz).2, (fin (hE0.trans (hS3.trans (by repeat (first | exact Keeps.refl _ _ | (refine Keeps.bumpR ?_ _))))) hE4 hg4 (by repeat (first | exact Keeps.refl _ _ | (refine Keeps.bumpR ?_ _))) hone hz).1⟩
      · have hone : one b = (0, ([], x1 * 256 + x2, c - 124), 3) := by unfold one; rw [hc, hx1, hx2, if_neg hlt, if_neg h3, if_neg hi]
        have hif : ill ([], x1 * 256 + x2, c - 124) = false := by simpa using hi
        rw [hif]
        repeat (first | (refine aw_seq ?_) | (refine aw_reg0 (by simp only [SZ, Nat.reduceAdd]; exact rfl) ?_) | (refine aw_reg (by decide +kernel) (by simp only [SZ, Nat.reduceAdd]; exact rfl) ?_) | (refine aw_regS (by decide +kernel) (by simp only [SZ, Nat.reduceAdd]; exact rfl) ?_) | (refine arl_nil ?_) | (refine aw_skip ?_) | (refine aw_block ?_) | (refine aw_exit ?_) | (refine aw_ret ?_) | (refine arl_cons rfl rfl (by simp +decide only [aop, abuiltin, aeval, aintBin, bin_int, aload_bump, SS, reduceIte, reduceCtorEq]; exact rfl) (by first | rfl | with_reducible assumption) rfl ?_) | (refine arl_none rfl rfl (by simp +decide only [aop, abuiltin, aeval, aintBin, bin_int, aload_bump, SS, reduceIte, reduceCtorEq]; exact rfl) rfl rfl ?_) | (refine arl_off rfl rfl ?_) | (refine aw_condT (by simp +decide only [aop, abuiltin, aeval, aintBin, bin_int, aload_bump, SS, reduceIte, reduceCtorEq]; first | done | exact rfl) ?_) | (refine aw_condF (by simp +decide only [aop, abuiltin, aeval, aintBin, bin_int, aload_bump, SS, reduceIte, reduceCtorEq]; first | done | exact rfl) ?_))
        refine arl_cons rfl rfl (by simp +decide only [aop, abuiltin, aeval, aintBin, bin_int, aload_bump, SS, reduceIte, reduceCtorEq, r3]; exact rfl) (by first | rfl | with_reducible assumption) rfl ?_
        refine arl_storeW (e := TK) (cs := [.pl (.slice none 0 0), i64 (x1 * 256 + x2), i64 (c - 124)]) rfl rfl rfl rfl rfl hg3 szTK rfl rfl rfl rfl rfl ?_
        intro s4 hn4 hwf4 hE4 hg4 hD4
        repeat (first | (refine aw_seq ?_) | (refine aw_reg0 (by simp only [SZ, Nat.reduceAdd]; exact rfl) ?_) | (refine aw_reg (by decide +kernel) (by simp only [SZ, Nat.reduceAdd]; exact rfl) ?_) | (refine aw_regS (by decide +kernel) (by simp only [SZ, Nat.reduceAdd]; exact rfl) ?_) | (refine arl_nil ?_) | (refine aw_skip ?_) | (refine aw_block ?_) | (refine aw_exit ?_) | (refine aw_ret ?_) | (refine arl_cons rfl rfl (by simp +decide only [aop, abuiltin, aeval, aintBin, bin_int, aload_bump, SS, reduceIte, reduceCtorEq]; exact rfl) (by first | rfl | with_reducible assumption) rfl ?_) | (refine arl_none rfl rfl (by simp +decide only [aop, abuiltin, aeval, aintBin, bin_int, aload_bump, SS, reduceIte, reduceCtorEq]; exact rfl) rfl rfl ?_) | (refine arl_off rfl rfl ?_) | (refine aw_condT (by simp +decide only [aop, abuiltin, aeval, aintBin, bin_int, aload_bump, SS, reduceIte, reduceCtorEq]; first | done | exact rfl) ?_) | (refine aw_condF (by simp +decide only [aop, abuiltin, aeval, aintBin, bin_int, aload_bump, SS, reduceIte, reduceCtorEq]; first | done | exact rfl) ?_))
        exact ⟨.inr rfl, _, ares3 rfl (fin (t := ([], x1 * 256 + x2, c - 124)) (hE0.trans (hS3.trans (by repeat (first | exact Keeps.refl _ _ | (refine Keeps.bumpR ?_ _))))) hE4 hg4 (by repeat (first | exact Keeps.refl _ _ | (refine Keeps.bumpR ?_ _))) hone (fun q hq => RdB.nilV)).2, (fin (t := ([], x1 * 256 + x2, c - 124)) (hE0.trans (hS3.trans (by repeat (first | exact Keeps.refl _ _ | (refine Keeps.bumpR ?_ _))))) hE4 hg4 (by repeat (first | exact Keeps.refl _ _ | (refine Keeps.bumpR ?_ _))) hone (fun q hq => RdB.nilV)).1⟩
end Go.Proofs.YthjfncppiffnmaaDoor.Ra
