/- leatlaw17.FrameMemory. -/
import Derived.Test.YtoccmjhgmoandaaYg
import Derived.Test.YtoccmjhgmoandaaYb
namespace Go.Proofs.Ytoccmjhgmoandaa.Ra
open Go Go.RowKit
set_option linter.unusedVariables false
set_option linter.unusedSimpArgs false
set_option maxRecDepth 10000
theorem mkB (n : Nat) (h : n ≤ 100000000) (id : Nat) : amakeSlice Try.prog 26 id (i64 n) (i64 n) = some (.sl id 0 n 1, ⟨(List.replicate n (0 : Int)).map u8, 5, true, id⟩) := by
  obtain ⟨i, hi, hz⟩ := Option.map_eq_some_iff.1 t5
  simp only [Prod.mk.injEq] at hz
  obtain ⟨z1, z2, z3⟩ := hz
  simp only [amakeSlice, uB, hi, z1]
  rw [if_pos ⟨by omega, trivial, by omega, by rw [z3]; omega, by omega⟩, z2]
  have : (Value.int .u8 0).cells = #[Value.int .u8 0] := rfl
  rw [this, toList_madeCells_one]
  simp
def mr (n : Nat) : List Int := (List.range n).map fun i : Nat => IntKind.u8.wrap (i : Int)
theorem mr_succ (n : Nat) : mr (n + 1) = mr n ++ [IntKind.u8.wrap (n : Int)] := by simp [mr, List.range_succ]
theorem mr_len (n : Nat) : (mr n).length = n := by simp [mr]
theorem mr_by (n : Nat) : ∀ x ∈ mr n, 0 ≤ x ∧ x < 256 := by
  intro x hx
  obtain ⟨i, -, rfl⟩ := List.mem_map.1 hx
  rw [IntKind.wrap_u8]
  omega
/-- A buffer of one's own, whatever stands in it. -/
def Buf (s : St) (bid gb : Nat) (zs : List Int) : Prop := s.get bid = some ⟨zs.map u8, 5, true, gb⟩
theorem Buf.own {s : St} {bid gb : Nat} {zs : List Int} (h : Buf s bid gb zs) : OwB s (fun g => g = gb) (.sl bid 0 zs.length 1) zs := .inr ⟨bid, gb, rfl, h, rfl⟩
theorem Buf.idx {s : St} {bid gb N j : Nat} (hj : j < N) : aindexAddr Try.prog 26 (.sl bid 0 N 1) (i64 j) = some (.ptr bid j) := by
  rw [idx_sl uB sz5 bid 0 N 1 .i64 j (by omega) (by omega)]
  simp
theorem take_set (zs c : List Int) (j : Nat) (hj : j < c.length) (hz : j < zs.length) (h : zs.take j = c.take j) : (zs.set j c[j]).take (j + 1) = c.take (j + 1) := by
  rw [List.take_succ_eq_append_getElem hj, List.take_succ_eq_append_getElem (by simpa using hz), ← h]
  rw [List.take_set_of_le (Nat.le_refl _)]
  simp
set_option maxHeartbeats 8000000 in
theorem memory_ok {st : St} (hw : WF st) {v : AV} {ps : List (List Int)} (most : Int) (h : RdE rowK st (fun _ => True) v ps) (hl : ps.flatten.length + ps.length ≤ 1048576) (hby : ∀ p ∈ ps, ∀ x ∈ p, 0 ≤ x ∧ x < 256) :
    ACalls Try.prog 6 [i64 most, v] st (fun r s => r = .pl (.bool true)) := by
  replace h := RdE.lt hw h
  have hvs := h.solid
  have hln := RdE.len h TRr
  have hM := bndF_in most
  have hby' : ∀ x ∈ ps.flatten, 0 ≤ x ∧ x < 256 := fun x hx => by
    obtain ⟨l, hl, hx⟩ := List.mem_flatten.1 hx
    exact hby l hl x hx
  have mk64 : ∀ id, amakeSlice Try.prog 26 id (i64 64) (i64 64) = some (.sl id 0 64 1, ⟨(List.replicate 64 (0 : Int)).map u8, 5, true, id⟩) := fun id => mkB 64 (by omega) id
  refine acalls_of Try.func6 rfl (by kernel_rfl) (by simp [hvs]; rfl) ?_
  repeat (first | (refine aw_seq ?_) | (refine aw_reg0 (by simp only [SZ, Nat.reduceAdd]; exact rfl) ?_) | (refine aw_reg (by decide +kernel) (by simp only [SZ, Nat.reduceAdd]; exact rfl) ?_) | (refine aw_regS (by decide +kernel) (by simp only [SZ, Nat.reduceAdd]; exact rfl) ?_) | (refine arl_nil ?_) | (refine aw_skip ?_) | (refine aw_block ?_) | (refine aw_exit ?_) | (refine aw_ret ?_) | (refine arl_cons rfl rfl (by simp +decide only [aop, abuiltin, aeval, aintBin, bin_int, aload_bump, SS, reduceIte, reduceCtorEq]; exact rfl) (by first | rfl | with_reducible assumption) rfl ?_) | (refine arl_none rfl rfl (by simp +decide only [aop, abuiltin, aeval, aintBin, bin_int, aload_bump, SS, reduceIte, reduceCtorEq]; exact rfl) rfl rfl ?_) | (refine arl_off rfl rfl ?_) | (refine aw_condT (by simp +decide only [aop, abuiltin, aeval, aintBin, bin_int, aload_bump, SS, reduceIte, reduceCtorEq]; first | done | exact rfl) ?_) | (refine aw_condF (by simp +decide only [aop, abuiltin, aeval, aintBin, bin_int, aload_bump, SS, reduceIte, reduceCtorEq]; first | done | exact rfl) ?_))
  refine arl_call rfl rfl rfl rfl rfl rfl ((fnewP (by repeat (first | assumption | (refine WF.bump ?_ _))) most).wf (by repeat (first | assumption | (refine WF.bump ?_ _) | (refine WF.put ?_ (by simp only [n_bump, n_put, n_touch, n_kill] at *; omega) (by simp only [n_bump, n_put, n_touch, n_kill] at *; omega)))) |>.mono ?_)
  rintro r s1 ⟨hw1, hn1, hE1, p, rfl, hpn, hF1⟩
  refine ⟨by first | rfl | with_reducible assumption, ?_⟩
  replace hE1 : Ext st s1 := Keeps.trans (by repeat (first | assumption | exact Keeps.refl _ _ | (refine Keeps.bumpR ?_ _) | (refine Keeps.put ?_ (by assumption) (by simp only [n_bump, n_put, n_touch, n_kill] at *; omega)))) hE1
  have hN1 := hE1.n
  have hp1 : p + 1 ≤ s1.n := hF1.2.1
  simp only [n_bump] at hpn
  repeat (first | (refine aw_seq ?_) | (refine aw_reg0 (by simp only [SZ, Nat.reduceAdd]; exact rfl) ?_) | (refine aw_reg (by decide +kernel) (by simp only [SZ, Nat.reduceAdd]; exact rfl) ?_) | (refine aw_regS (by decide +kernel) (by simp only [SZ, Nat.reduceAdd]; exact rfl) ?_) | (refine arl_nil ?_) | (refine aw_skip ?_) | (refine aw_block ?_) | (refine aw_exit ?_) | (refine aw_ret ?_) | (refine arl_cons rfl rfl (by simp +decide only [aop, abuiltin, aeval, aintBin, bin_int, aload_bump, SS, reduceIte, reduceCtorEq, pNil]; exact rfl) (by first | rfl | with_reducible assumption) rfl ?_) | (refine arl_none rfl rfl (by simp +decide only [aop, abuiltin, aeval, aintBin, bin_int, aload_bump, SS, reduceIte, reduceCtorEq, pNil]; exact rfl) rfl rfl ?_) | (refine arl_off rfl rfl ?_) | (refine aw_condT (by simp +decide only [aop, abuiltin, aeval, aintBin, bin_int, aload_bump, SS, reduceIte, reduceCtorEq, pNil]; first | done | exact rfl) ?_) | (refine aw_condF (by simp +decide only [aop, abuiltin, aeval, aintBin, bin_int, aload_bump, SS, reduceIte, reduceCtorEq, pNil]; first | done | exact rfl) ?_))
  refine arl_call rfl rfl rfl rfl rfl rfl ((falive_ok (by repeat (first | assumption | (refine WF.bump ?_ _)))).wf (by repeat (first | assumption | (refine WF.bump ?_ _) | (refine WF.put ?_ (by simp only [n_bump, n_put, n_touch, n_kill] at *; omega) (by simp only [n_bump, n_put, n_touch, n_kill] at *; omega)))) |>.mono ?_)
  rintro r s2 ⟨hw2, hn2, hE2, rfl⟩
  refine ⟨by first | rfl | with_reducible assumption, ?_⟩
  replace hE2 : Ext s1 s2 := Keeps.trans (by repeat (first | assumption | exact Keeps.refl _ _ | (refine Keeps.bumpR ?_ _) | (refine Keeps.put ?_ (by assumption) (by simp only [n_bump, n_put, n_touch, n_kill] at *; omega)))) hE2
  have hN2 := hE2.n
  have hN2 := hE2.n
  have hS2 := hE1.trans hE2
  replace hF1 := (hF1.up hE2).lift (lo' := s2.n) (by omega) (Nat.le_refl _)
  obtain ⟨lo, hlo⟩ : ∃ lo, s2.n = lo := ⟨_, rfl⟩
  rw [hlo] at hF1
  have hplo : p < lo := by omega
  have hstlo : st.n ≤ lo := by omega
  repeat (first | (refine aw_seq ?_) | (refine aw_reg0 (by simp only [SZ, Nat.reduceAdd]; exact rfl) ?_) | (refine aw_reg (by decide +kernel) (by simp only [SZ, Nat.reduceAdd]; exact rfl) ?_) | (refine aw_regS (by decide +kernel) (by simp only [SZ, Nat.reduceAdd]; exact rfl) ?_) | (refine arl_nil ?_) | (refine aw_skip ?_) | (refine aw_block ?_) | (refine aw_exit ?_) | (refine aw_ret ?_) | (refine arl_cons rfl rfl (by simp +decide only [aop, abuiltin, aeval, aintBin, bin_int, aload_bump, SS, reduceIte, reduceCtorEq, litF0, mk64, hln]; exact rfl) (by first | rfl | with_reducible assumption) rfl ?_) | (refine arl_none rfl rfl (by simp +decide only [aop, abuiltin, aeval, aintBin, bin_int, aload_bump, SS, reduceIte, reduceCtorEq, litF0, mk64, hln]; exact rfl) rfl rfl ?_) | (refine arl_off rfl rfl ?_) | (refine aw_condT (by simp +decide only [aop, abuiltin, aeval, aintBin, bin_int, aload_bump, SS, reduceIte, reduceCtorEq, litF0, mk64, hln]; first | done | exact rfl) ?_) | (refine aw_condF (by simp +decide only [aop, abuiltin, aeval, aintBin, bin_int, aload_bump, SS, reduceIte, reduceCtorEq, litF0, mk64, hln]; first | done | exact rfl) ?_))
  refine AW.mono (AW.wf (aw_rounds_wf (fun m fr s => Ext st s ∧ ∃ (k : Nat) (KH KB KO : Nat → Prop) (LO : Nat → Nat → Prop) (bid gb : Nat) (zs : List Int), k ≤ ps.length ∧ m = ps.length - k ∧ fr 0 = i64 most ∧ fr 1 = v ∧ fr 5 = .ptr p 0 ∧ fr 6 ≠ .pl (.slice none 0 0) ∧ fr 7 = .sl bid 0 zs.length 1 ∧ fr 33 = v ∧ fr 34 = i64 ps.length ∧ fr 35 = i64 k ∧ Fed s lo p KH KB (bndF most) (ps.take k).flatten ∧ OwX oRowK s KO LO BT (fr 6) (cutS (bndF most) (ps.take k).flatten).1 ∧ Sep s.n lo KH KB KO LO ∧ Buf s bid gb zs ∧ zs.length ≤ 2000000 ∧ lo ≤ gb ∧ gb < s.n ∧ ¬ KH gb ∧ ¬ KB gb ∧ ¬ KO gb ∧ ∀ j, ¬ LO j gb)
    (Q := fun e fr s => e = .exit 0 ∧ Ext st s ∧ ∃ (KH KB KO : Nat → Prop) (LO : Nat → Nat → Prop), fr 0 = i64 most ∧ fr 1 = v ∧ fr 5 = .ptr p 0 ∧ Fed s lo p KH KB (bndF most) ps.flatten ∧ OwX oRowK s KO LO BT (fr 6) (cutS (bndF most) ps.flatten).1 ∧ Sep s.n lo KH KB KO LO) ?_ ps.length _ _ (by repeat (first | assumption | (refine WF.bump ?_ _) | (refine WF.put ?_ (by simp only [n_bump, n_put, n_touch, n_kill] at *; omega) (by simp only [n_bump, n_put, n_touch, n_kill] at *; omega)))) ?_) (by repeat (first | assumption | (refine WF.bump ?_ _) | (refine WF.put ?_ (by simp only [n_bump, n_put, n_touch, n_kill] at *; omega) (by simp only [n_bump, n_put, n_touch, n_kill] at *; omega))))) ?_
  · rintro m fr sx hwx ⟨hE, k, KH, KB, KO, LO, bid, gb, zs, hk, rfl, f0, f1, f5, f6n, f7, f33, f34, f35, hF, hO, hS, hB, hzl, hgb, hgn, bH, bB, bO, bL⟩
    have hEn := hE.n
    obtain ⟨ov, f6⟩ : ∃ x, fr 6 = x := ⟨_, rfl⟩
    rw [f6] at hO f6n
    have hovs := hO.solid
    by_cases hlt : k < ps.length
    · have d1 : decide ((k : Int) < (ps.length : Int)) = true := decide_eq_true (by omega)
      obtain ⟨a, c, a1, a2, a3, a4, a5⟩ := row_at (h.up hE) .i64 k hlt
      have hcl := a5.len
      have hfl1 := flatF_le ps (k + 1)
      rw [flatF_succ ps k hlt, List.length_append] at hfl1
      have hlx : lo ≤ sx.n := hF.2.1
      have hKB : ∀ g, KB g → lo ≤ g ∧ g < sx.n := hF.2.2.2.1
      have hKH : ∀ g, KH g → lo ≤ g ∧ g < sx.n := hF.2.2.1
      have hbl := hB.own.rd.len
      obtain ⟨pk, hpk⟩ : ∃ pk, ps[k] = pk := ⟨_, rfl⟩
      rw [hpk] at hcl hfl1 a5
      have hbyk : ∀ x ∈ pk, 0 ≤ x ∧ x < 256 := by rw [← hpk]; exact hby _ (List.getElem_mem hlt)
      repeat (first | (refine aw_seq ?_) | (refine aw_reg0 (by simp only [SZ, Nat.reduceAdd]; exact rfl) ?_) | (refine aw_reg (by decide +kernel) (by simp only [SZ, Nat.reduceAdd]; exact rfl) ?_) | (refine aw_regS (by decide +kernel) (by simp only [SZ, Nat.reduceAdd]; exact rfl) ?_) | (refine arl_nil ?_) | (refine aw_skip ?_) | (refine aw_block ?_) | (refine aw_exit ?_) | (refine aw_ret ?_) | (refine arl_cons rfl rfl (by simp +decide only [aop, abuiltin, aeval, aintBin, bin_int, aload_bump, SS, reduceIte, reduceCtorEq, f35, f34, d1, f33, a1, a3, hcl, f7, hbl]; exact rfl) (by first | rfl | with_reducible assumption) rfl ?_) | (refine arl_none rfl rfl (by simp +decide only [aop, abuiltin, aeval, aintBin, bin_int, aload_bump, SS, reduceIte, reduceCtorEq, f35, f34, d1, f33, a1, a3, hcl, f7, hbl]; exact rfl) rfl rfl ?_) | (refine arl_off rfl rfl ?_) | (refine aw_condT (by simp +decide only [aop, abuiltin, aeval, aintBin, bin_int, aload_bump, SS, reduceIte, reduceCtorEq, f35, f34, d1, f33, a1, a3, hcl, f7, hbl]; first | done | exact rfl) ?_) | (refine aw_condF (by simp +decide only [aop, abuiltin, aeval, aintBin, bin_int, aload_bump, SS, reduceIte, reduceCtorEq, f35, f34, d1, f33, a1, a3, hcl, f7, hbl]; first | done | exact rfl) ?_))
      refine AW.mono (Q := fun e fr' s' => e = .normal ∧ WF s' ∧ Ext sx s' ∧ fr' 0 = i64 most ∧ fr' 1 = v ∧ fr' 5 = .ptr p 0 ∧ fr' 6 = ov ∧ fr' 9 = c ∧ fr' 33 = v ∧ fr' 34 = i64 ps.length ∧ fr' 35 = i64 k ∧ ∃ (bid gb : Nat) (zs : List Int), fr' 7 = .sl bid 0 zs.length 1 ∧ Buf s' bid gb zs ∧ zs.length ≤ 2000000 ∧ pk.length ≤ zs.length ∧ lo ≤ gb ∧ gb < s'.n ∧ ¬ KH gb ∧ ¬ KB gb ∧ ¬ KO gb ∧ ∀ j, ¬ LO j gb) ?_ ?_
      · by_cases hbig : zs.length < pk.length
        · have d2 : decide ((zs.length : Int) < (pk.length : Int)) = true := decide_eq_true (by omega)
          have mkn := mkB pk.length (by omega)
          repeat (first | (refine aw_seq ?_) | (refine aw_reg0 (by simp only [SZ, Nat.reduceAdd]; exact rfl) ?_) | (refine aw_reg (by decide +kernel) (by simp only [SZ, Nat.reduceAdd]; exact rfl) ?_) | (refine aw_regS (by decide +kernel) (by simp only [SZ, Nat.reduceAdd]; exact rfl) ?_) | (refine arl_nil ?_) | (refine aw_skip ?_) | (refine aw_block ?_) | (refine aw_exit ?_) | (refine aw_ret ?_) | (refine arl_cons rfl rfl (by simp +decide only [aop, abuiltin, aeval, aintBin, bin_int, aload_bump, SS, reduceIte, reduceCtorEq, d2, hcl, mkn]; exact rfl) (by first | rfl | with_reducible assumption) rfl ?_) | (refine arl_none rfl rfl (by simp +decide only [aop, abuiltin, aeval, aintBin, bin_int, aload_bump, SS, reduceIte, reduceCtorEq, d2, hcl, mkn]; exact rfl) rfl rfl ?_) | (refine arl_off rfl rfl ?_) | (refine aw_condT (by simp +decide only [aop, abuiltin, aeval, aintBin, bin_int, aload_bump, SS, reduceIte, reduceCtorEq, d2, hcl, mkn]; first | done | exact rfl) ?_) | (refine aw_condF (by simp +decide only [aop, abuiltin, aeval, aintBin, bin_int, aload_bump, SS, reduceIte, reduceCtorEq, d2, hcl, mkn]; first | done | exact rfl) ?_))
          refine ⟨rfl, (by repeat (first | assumption | (refine WF.bump ?_ _) | (refine WF.put ?_ (by simp only [n_bump, n_put, n_touch, n_kill] at *; omega) (by simp only [n_bump, n_put, n_touch, n_kill] at *; omega)))), (by repeat (first | assumption | exact Keeps.refl _ _ | (refine Keeps.bumpR ?_ _) | (refine Keeps.put ?_ (by assumption) (by simp only [n_bump, n_put, n_touch, n_kill] at *; omega)))), f0, f1, f5, f6, rfl, f33, f34, f35, _, _, List.replicate pk.length (0 : Int), ?_, get_put _ _, ?_, ?_, ?_, ?_, ?_, ?_, ?_, ?_⟩
          · rw [List.length_replicate]; rfl
          · simp; omega
          · simp
          · simp only [n_bump]; omega
          · simp only [n_bump, n_put]; omega
          · intro hh; have := hKH _ hh; simp only [n_bump] at this; omega
          · intro hh; have := hKB _ hh; simp only [n_bump] at this; omega
          · intro hh; have := hS.o _ hh; simp only [n_bump] at this; omega
          · intro j hh; have := hS.l j _ hh; simp only [n_bump] at this; omega
        · have d2 : decide ((zs.length : Int) < (pk.length : Int)) = false := decide_eq_false (by omega)
          repeat (first | (refine aw_seq ?_) | (refine aw_reg0 (by simp only [SZ, Nat.reduceAdd]; exact rfl) ?_) | (refine aw_reg (by decide +kernel) (by simp only [SZ, Nat.reduceAdd]; exact rfl) ?_) | (refine aw_regS (by decide +kernel) (by simp only [SZ, Nat.reduceAdd]; exact rfl) ?_) | (refine arl_nil ?_) | (refine aw_skip ?_) | (refine aw_block ?_) | (refine aw_exit ?_) | (refine aw_ret ?_) | (refine arl_cons rfl rfl (by simp +decide only [aop, abuiltin, aeval, aintBin, bin_int, aload_bump, SS, reduceIte, reduceCtorEq, d2]; exact rfl) (by first | rfl | with_reducible assumption) rfl ?_) | (refine arl_none rfl rfl (by simp +decide only [aop, abuiltin, aeval, aintBin, bin_int, aload_bump, SS, reduceIte, reduceCtorEq, d2]; exact rfl) rfl rfl ?_) | (refine arl_off rfl rfl ?_) | (refine aw_condT (by simp +decide only [aop, abuiltin, aeval, aintBin, bin_int, aload_bump, SS, reduceIte, reduceCtorEq, d2]; first | done | exact rfl) ?_) | (refine aw_condF (by simp +decide only [aop, abuiltin, aeval, aintBin, bin_int, aload_bump, SS, reduceIte, reduceCtorEq, d2]; first | done | exact rfl) ?_))
          exact ⟨rfl, (by repeat (first | assumption | (refine WF.bump ?_ _))), (by repeat (first | exact Keeps.refl _ _ | (refine Keeps.bumpR ?_ _))), f0, f1, f5, f6, rfl, f33, f34, f35, bid, gb, zs, f7, hB, hzl, by omega, hgb, by simp only [n_bump]; omega, bH, bB, bO, bL⟩
      clear f0 f1 f5 f6 f7 f33 f34 f35 hB hzl hgb hgn bH bB bO bL hbl
      rintro e fr1 s3 ⟨rfl, hw3, hE3, f0, f1, f5, f6, f9, f33, f34, f35, bid, gb, zs, f7, hB, hzl, hzk, hgb, hgn, bH, bB, bO, bL⟩
      have hN3 := hE3.n
      have hc3 := a5.up hE3
      repeat (first | (refine aw_seq ?_) | (refine aw_reg0 (by simp only [SZ, Nat.reduceAdd]; exact rfl) ?_) | (refine aw_reg (by decide +kernel) (by simp only [SZ, Nat.reduceAdd]; exact rfl) ?_) | (refine aw_regS (by decide +kernel) (by simp only [SZ, Nat.reduceAdd]; exact rfl) ?_) | (refine arl_nil ?_) | (refine aw_skip ?_) | (refine aw_block ?_) | (refine aw_exit ?_) | (refine aw_ret ?_) | (refine arl_cons rfl rfl (by simp +decide only [aop, abuiltin, aeval, aintBin, bin_int, aload_bump, SS, reduceIte, reduceCtorEq, f9, hcl]; exact rfl) (by first | rfl | with_reducible assumption) rfl ?_) | (refine arl_none rfl rfl (by simp +decide only [aop, abuiltin, aeval, aintBin, bin_int, aload_bump, SS, reduceIte, reduceCtorEq, f9, hcl]; exact rfl) rfl rfl ?_) | (refine arl_off rfl rfl ?_) | (refine aw_condT (by simp +decide only [aop, abuiltin, aeval, aintBin, bin_int, aload_bump, SS, reduceIte, reduceCtorEq, f9, hcl]; first | done | exact rfl) ?_) | (refine aw_condF (by simp +decide only [aop, abuiltin, aeval, aintBin, bin_int, aload_bump, SS, reduceIte, reduceCtorEq, f9, hcl]; first | done | exact rfl) ?_))
      refine AW.mono (AW.wf (aw_rounds_wf (fun m fr' s' => Keeps (fun g => g = gb) s3 s' ∧ ∃ (j : Nat) (zs' : List Int), j ≤ pk.length ∧ m = pk.length - j ∧ fr' 0 = i64 most ∧ fr' 1 = v ∧ fr' 5 = .ptr p 0 ∧ fr' 6 = ov ∧ fr' 7 = .sl bid 0 zs.length 1 ∧ fr' 9 = c ∧ fr' 33 = v ∧ fr' 34 = i64 ps.length ∧ fr' 35 = i64 k ∧ fr' 48 = i64 pk.length ∧ fr' 49 = i64 j ∧ Buf s' bid gb zs' ∧ zs'.length = zs.length ∧ zs'.take j = pk.take j)
        (Q := fun e fr' s' => e = .exit 2 ∧ Keeps (fun g => g = gb) s3 s' ∧ ∃ (zs' : List Int), fr' 0 = i64 most ∧ fr' 1 = v ∧ fr' 5 = .ptr p 0 ∧ fr' 6 = ov ∧ fr' 7 = .sl bid 0 zs.length 1 ∧ fr' 9 = c ∧ fr' 33 = v ∧ fr' 34 = i64 ps.length ∧ fr' 35 = i64 k ∧ Buf s' bid gb zs' ∧ zs'.length = zs.length ∧ zs'.take pk.length = pk) ?_ pk.length _ _ (by repeat (first | assumption | (refine WF.bump ?_ _))) ?_) (by repeat (first | assumption | (refine WF.bump ?_ _)))) ?_
      · rintro m fr' s' hws ⟨hE', j, zs', hj, rfl, f0, f1, f5, f6, f7, f9, f33, f34, f35, f48, f49, hB', hzl', htk⟩
        by_cases hjl : j < pk.length
        · have d3 : decide ((j : Int) < (pk.length : Int)) = true := decide_eq_true (by omega)
          obtain ⟨q, q1, q2, q3⟩ := (hc3.keep hE' (fun g hg hg' => by have := hg.2; omega)).atN .i64 j hjl
          have hix := Buf.idx (s := s') (bid := bid) (gb := gb) (N := zs.length) (j := j) (by omega)
          have hwk := wrap_succ (k := j) (by omega)
          repeat (first | (refine aw_seq ?_) | (refine aw_reg0 (by simp only [SZ, Nat.reduceAdd]; exact rfl) ?_) | (refine aw_reg (by decide +kernel) (by simp only [SZ, Nat.reduceAdd]; exact rfl) ?_) | (refine aw_regS (by decide +kernel) (by simp only [SZ, Nat.reduceAdd]; exact rfl) ?_) | (refine arl_nil ?_) | (refine aw_skip ?_) | (refine aw_block ?_) | (refine aw_exit ?_) | (refine aw_ret ?_) | (refine arl_cons rfl rfl (by simp +decide only [aop, abuiltin, aeval, aintBin, bin_int, aload_bump, SS, reduceIte, reduceCtorEq, f48, f49, d3, f7, f9, q1, q3, hix]; exact rfl) (by first | rfl | with_reducible assumption) rfl ?_) | (refine arl_none rfl rfl (by simp +decide only [aop, abuiltin, aeval, aintBin, bin_int, aload_bump, SS, reduceIte, reduceCtorEq, f48, f49, d3, f7, f9, q1, q3, hix]; exact rfl) rfl rfl ?_) | (refine arl_off rfl rfl ?_) | (refine aw_condT (by simp +decide only [aop, abuiltin, aeval, aintBin, bin_int, aload_bump, SS, reduceIte, reduceCtorEq, f48, f49, d3, f7, f9, q1, q3, hix]; first | done | exact rfl) ?_) | (refine aw_condF (by simp +decide only [aop, abuiltin, aeval, aintBin, bin_int, aload_bump, SS, reduceIte, reduceCtorEq, f48, f49, d3, f7, f9, q1, q3, hix]; first | done | exact rfl) ?_))
          refine arl_store (y := pk[j]) (xs := zs') (i := bid) (g := gb) (k := j) rfl rfl rfl (by simp only [aeval, aput_at]; rfl) (by simp only [aeval, aput_at]; rfl) hB' (by omega) ?_
          repeat (first | (refine aw_seq ?_) | (refine aw_reg0 (by simp only [SZ, Nat.reduceAdd]; exact rfl) ?_) | (refine aw_reg (by decide +kernel) (by simp only [SZ, Nat.reduceAdd]; exact rfl) ?_) | (refine aw_regS (by decide +kernel) (by simp only [SZ, Nat.reduceAdd]; exact rfl) ?_) | (refine arl_nil ?_) | (refine aw_skip ?_) | (refine aw_block ?_) | (refine aw_exit ?_) | (refine aw_ret ?_) | (refine arl_cons rfl rfl (by simp +decide only [aop, abuiltin, aeval, aintBin, bin_int, aload_bump, SS, reduceIte, reduceCtorEq, f49, hwk]; exact rfl) (by first | rfl | with_reducible assumption) rfl ?_) | (refine arl_none rfl rfl (by simp +decide only [aop, abuiltin, aeval, aintBin, bin_int, aload_bump, SS, reduceIte, reduceCtorEq, f49, hwk]; exact rfl) rfl rfl ?_) | (refine arl_off rfl rfl ?_) | (refine aw_condT (by simp +decide only [aop, abuiltin, aeval, aintBin, bin_int, aload_bump, SS, reduceIte, reduceCtorEq, f49, hwk]; first | done | exact rfl) ?_) | (refine aw_condF (by simp +decide only [aop, abuiltin, aeval, aintBin, bin_int, aload_bump, SS, reduceIte, reduceCtorEq, f49, hwk]; first | done | exact rfl) ?_))
          refine ⟨pk.length - (j + 1), by omega, ?_, j + 1, zs'.set j pk[j], by omega, rfl, f0, f1, f5, f6, f7, f9, f33, f34, f35, f48, rfl, get_put _ _, by simp; omega, take_set _ _ _ hjl (by omega) htk⟩
          exact ((Keeps.trans hE' (Keeps.mono (G := fun _ => False) (show Ext s' (((s'.bump 1).bump 2).bump 8) from (by repeat (first | exact Keeps.refl _ _ | (refine Keeps.bumpR ?_ _)))) (fun _ h => h.elim))).trans (Keeps.write1 (o := ⟨_, 5, true, gb⟩) (show (((s'.bump 1).bump 2).bump 8).get bid = _ from hB') j 1)).bumpR _
        · have d3 : decide ((j : Int) < (pk.length : Int)) = false := decide_eq_false (by omega)
          repeat (first | (refine aw_seq ?_) | (refine aw_reg0 (by simp only [SZ, Nat.reduceAdd]; exact rfl) ?_) | (refine aw_reg (by decide +kernel) (by simp only [SZ, Nat.reduceAdd]; exact rfl) ?_) | (refine aw_regS (by decide +kernel) (by simp only [SZ, Nat.reduceAdd]; exact rfl) ?_) | (refine arl_nil ?_) | (refine aw_skip ?_) | (refine aw_block ?_) | (refine aw_exit ?_) | (refine aw_ret ?_) | (refine arl_cons rfl rfl (by simp +decide only [aop, abuiltin, aeval, aintBin, bin_int, aload_bump, SS, reduceIte, reduceCtorEq, f48, f49, d3]; exact rfl) (by first | rfl | with_reducible assumption) rfl ?_) | (refine arl_none rfl rfl (by simp +decide only [aop, abuiltin, aeval, aintBin, bin_int, aload_bump, SS, reduceIte, reduceCtorEq, f48, f49, d3]; exact rfl) rfl rfl ?_) | (refine arl_off rfl rfl ?_) | (refine aw_condT (by simp +decide only [aop, abuiltin, aeval, aintBin, bin_int, aload_bump, SS, reduceIte, reduceCtorEq, f48, f49, d3]; first | done | exact rfl) ?_) | (refine aw_condF (by simp +decide only [aop, abuiltin, aeval, aintBin, bin_int, aload_bump, SS, reduceIte, reduceCtorEq, f48, f49, d3]; first | done | exact rfl) ?_))
          obtain rfl : j = pk.length := by omega
          rw [List.take_length] at htk
          exact ⟨rfl, hE'.trans (Keeps.mono (G := fun _ => False) (by repeat (first | exact Keeps.refl _ _ | (refine Keeps.bumpR ?_ _))) (fun _ h => h.elim)), zs', f0, f1, f5, f6, f7, f9, f33, f34, f35, hB', hzl', htk⟩
      · exact ⟨Keeps.mono (G := fun _ => False) (by repeat (first | exact Keeps.refl _ _ | (refine Keeps.bumpR ?_ _))) (fun _ h => h.elim), 0, zs, by omega, rfl, f0, f1, f5, f6, f7, f9, f33, f34, f35, rfl, rfl, hB, rfl, by simp⟩
      clear f0 f1 f5 f6 f7 f9 f33 f34 f35 hB
      rintro e fr2 s4 ⟨hw4, hn4, rfl, hE4, zs', f0, f1, f5, f6, f7, f9, f33, f34, f35, hB, hzl', htk⟩
      have hN4 := hE4.n
      have hU := (RdB.cuts (hB.own.rd) none (some (i64 pk.length)) 0 pk.length (.inr ⟨rfl, rfl⟩) (.inl rfl) (by omega) (by omega))
      rw [hzl'] at hU
      obtain ⟨u, hcut, hus, hU⟩ := hU
      have hub : (zs'.drop 0).take (pk.length - 0) = pk := by simpa using htk
      rw [hub] at hU
      have hbyA : ∀ x ∈ (ps.take k).flatten ++ pk, 0 ≤ x ∧ x < 256 := fun x hx => by
        rcases List.mem_append.1 hx with hx | hx
        · obtain ⟨l, hl, hx⟩ := List.mem_flatten.1 hx
          exact hby l (List.mem_of_mem_take hl) x hx
        · exact hbyk x hx
      have hE34 : Keeps (fun g => g = gb) sx s4 := Keeps.trans (Keeps.mono (G := fun _ => False) hE3 (fun _ h => h.elim)) hE4
      have hF4 := hF.keep hE34 (fun h => by omega) (fun g hg h => bH (by rw [← h]; exact hg)) (fun g hg h => bB (by rw [← h]; exact hg))
      have hO4 := hO.keep hE34 (fun g hg h => bO (by rw [← h]; exact hg)) (fun j g hg h => bL j (by rw [← h]; exact hg))
      have hT4 : Ext st s4 := Keeps.call hE hE34 hw (fun g hg => .inr (by omega))
      repeat (first | (refine aw_seq ?_) | (refine aw_reg0 (by simp only [SZ, Nat.reduceAdd]; exact rfl) ?_) | (refine aw_reg (by decide +kernel) (by simp only [SZ, Nat.reduceAdd]; exact rfl) ?_) | (refine aw_regS (by decide +kernel) (by simp only [SZ, Nat.reduceAdd]; exact rfl) ?_) | (refine arl_nil ?_) | (refine aw_skip ?_) | (refine aw_block ?_) | (refine aw_exit ?_) | (refine aw_ret ?_) | (refine arl_cons rfl rfl (by simp +decide only [aop, abuiltin, aeval, aintBin, bin_int, aload_bump, SS, reduceIte, reduceCtorEq, f5, f7, f9, hcl, hcut]; exact rfl) (by first | rfl | with_reducible assumption) rfl ?_) | (refine arl_none rfl rfl (by simp +decide only [aop, abuiltin, aeval, aintBin, bin_int, aload_bump, SS, reduceIte, reduceCtorEq, f5, f7, f9, hcl, hcut]; exact rfl) rfl rfl ?_) | (refine arl_off rfl rfl ?_) | (refine aw_condT (by simp +decide only [aop, abuiltin, aeval, aintBin, bin_int, aload_bump, SS, reduceIte, reduceCtorEq, f5, f7, f9, hcl, hcut]; first | done | exact rfl) ?_) | (refine aw_condF (by simp +decide only [aop, abuiltin, aeval, aintBin, bin_int, aload_bump, SS, reduceIte, reduceCtorEq, f5, f7, f9, hcl, hcut]; first | done | exact rfl) ?_))
      refine arl_call rfl rfl rfl rfl rfl rfl ((fed_ok (by repeat (first | assumption | (refine WF.bump ?_ _))) (hF4.up (by repeat (first | exact Keeps.refl _ _ | (refine Keeps.bumpR ?_ _)))) hM.2 (hU.up (by repeat (first | exact Keeps.refl _ _ | (refine Keeps.bumpR ?_ _)))) (fun g hg => ⟨fun h => bH (by rw [← hg]; exact h), fun h => bB (by rw [← hg]; exact h), by omega⟩) hbyA (by omega)).wf (by repeat (first | assumption | (refine WF.bump ?_ _) | (refine WF.put ?_ (by simp only [n_bump, n_put, n_touch, n_kill] at *; omega) (by simp only [n_bump, n_put, n_touch, n_kill] at *; omega)))) |>.mono ?_)
      rintro res s5 ⟨hw5, hn5, hE5, x, KX, KH', KB', L, fs, rfl, hxs, hX, hGr, hfs, hnf, hF5⟩
      refine ⟨rfl, ?_⟩
      replace hE5 : Keeps (fun g => g = p ∨ KH g ∨ KB g) s4 s5 := Keeps.trans (Keeps.mono (G := fun _ => False) (show Ext s4 _ from (by repeat (first | exact Keeps.refl _ _ | (refine Keeps.bumpR ?_ _)))) (fun _ h => h.elim)) hE5
      have hN5 := hE5.n
      have hcl5 := (cut_lens (bndF most) ((ps.take k).flatten ++ pk)).1
      rw [hfs, List.length_append, List.length_append] at hcl5
      have hsz : (cutS (bndF most) (ps.take k).flatten).1.length + fs.length ≤ 1048576 := by omega
      have hT5 : Ext st s5 := Keeps.call hT4 hE5 hw (fun g hg => .inr (by rcases hg with h | h | h; omega; have := hKH g h; omega; have := hKB g h; omega))
      have hO5 := hO4.keep hE5 (fun g hg h => by have := hS.o g hg; rcases h with h | h | h; omega; exact this.2.2.1 h; exact this.2.2.2 h) (fun j g hg h => by have := hS.l j g hg; rcases h with h | h | h; omega; exact this.2.2.1 h; exact this.2.2.2 h)
      have hB5 : Buf s5 bid gb zs' := hE5.get _ _ hB (fun h => by rcases h with h | h | h; simp only at h; omega; exact bH h; exact bB h)
      try simp only [n_bump] at hn5 hGr
      obtain ⟨hS5, hxx⟩ := hS.step (c := (cutS (bndF most) (ps.take k).flatten).1.length) hGr hKB (by omega) (by omega) hlx
      have bH' : ¬ KH' gb := fun h => by rcases hGr.h _ h with h | h; exact bH h; omega
      have bB' : ¬ KB' gb := fun h => by rcases hGr.b _ h with h | h; exact bB h; omega
      have bL' : ∀ j, ¬ L j gb := fun j h => by rcases hGr.l j _ h with h | h; exact bB h; omega
      repeat (first | (refine aw_seq ?_) | (refine aw_reg0 (by simp only [SZ, Nat.reduceAdd]; exact rfl) ?_) | (refine aw_reg (by decide +kernel) (by simp only [SZ, Nat.reduceAdd]; exact rfl) ?_) | (refine aw_regS (by decide +kernel) (by simp only [SZ, Nat.reduceAdd]; exact rfl) ?_) | (refine arl_nil ?_) | (refine aw_skip ?_) | (refine aw_block ?_) | (refine aw_exit ?_) | (refine aw_ret ?_) | (refine arl_cons rfl rfl (by simp +decide only [aop, abuiltin, aeval, aintBin, bin_int, aload_bump, SS, reduceIte, reduceCtorEq, f6]; exact rfl) (by first | rfl | with_reducible assumption) rfl ?_) | (refine arl_none rfl rfl (by simp +decide only [aop, abuiltin, aeval, aintBin, bin_int, aload_bump, SS, reduceIte, reduceCtorEq, f6]; exact rfl) rfl rfl ?_) | (refine arl_off rfl rfl ?_) | (refine aw_condT (by simp +decide only [aop, abuiltin, aeval, aintBin, bin_int, aload_bump, SS, reduceIte, reduceCtorEq, f6]; first | done | exact rfl) ?_) | (refine aw_condF (by simp +decide only [aop, abuiltin, aeval, aintBin, bin_int, aload_bump, SS, reduceIte, reduceCtorEq, f6]; first | done | exact rfl) ?_))
      refine arl_appZ (k := oRowK) (a := 69) (c := 70) (xs := (cutS (bndF most) (ps.take k).flatten).1) (ns := fs) (K := KO) TRo rfl rfl rfl (hO5.up (by repeat (first | exact Keeps.refl _ _ | (refine Keeps.bumpR ?_ _)))) (hX.up (by repeat (first | exact Keeps.refl _ _ | (refine Keeps.bumpR ?_ _)))) hxx ⟨fun j hj => by rcases hGr.l j _ hj with h | h; have := hKB _ h; simp only [n_bump] at *; omega; simp only [n_bump] at *; omega, fun h => absurd h f6n⟩ (fun _ h => h) (fresh hw5 (by first | omega | (simp only [n_bump, n_put]; omega) | (simp only [n_bump, n_put] at *; omega))) (by clear hcl5; omega) (by clear hcl5; omega) ?_
      intro y s6 hO6 hn6 hK6 hwf6 hyn
      have hw6 : WF s6 := hwf6 (by repeat (first | assumption | (refine WF.bump ?_ _))) (by simp only [n_bump, n_put, n_touch, n_kill] at *; omega)
      have hys := hO6.solid
      replace hK6 : Keeps KO s5 s6 := Keeps.trans (Keeps.mono (G := fun _ => False) (show Ext s5 _ from (by repeat (first | exact Keeps.refl _ _ | (refine Keeps.bumpR ?_ _)))) (fun _ h => h.elim)) hK6
      simp only [n_bump] at hn6
      have hN6 := hK6.n
      have hT6 : Ext st s6 := Keeps.call hT5 hK6 hw (fun g hg => .inr (by have := hS.o g hg; omega))
      have hB6 : Buf s6 bid gb zs' := hK6.get _ _ hB5 (fun h => bO h)
      have hF6 := hF5.keep hK6 (fun hg => by have := hS.o _ hg; omega) (fun g hg hg' => (hS5.o g hg').2.2.1 hg) (fun g hg hg' => (hS5.o g hg').2.2.2 hg)
      rw [← hfs] at hO6
      have hbl6 := hB6.own.rd.len
      rw [hzl'] at hbl6
      repeat (first | (refine aw_seq ?_) | (refine aw_reg0 (by simp only [SZ, Nat.reduceAdd]; exact rfl) ?_) | (refine aw_reg (by decide +kernel) (by simp only [SZ, Nat.reduceAdd]; exact rfl) ?_) | (refine aw_regS (by decide +kernel) (by simp only [SZ, Nat.reduceAdd]; exact rfl) ?_) | (refine arl_nil ?_) | (refine aw_skip ?_) | (refine aw_block ?_) | (refine aw_exit ?_) | (refine aw_ret ?_) | (refine arl_cons rfl rfl (by simp +decide only [aop, abuiltin, aeval, aintBin, bin_int, aload_bump, SS, reduceIte, reduceCtorEq, f7, hbl6]; exact rfl) (by first | rfl | with_reducible assumption) rfl ?_) | (refine arl_none rfl rfl (by simp +decide only [aop, abuiltin, aeval, aintBin, bin_int, aload_bump, SS, reduceIte, reduceCtorEq, f7, hbl6]; exact rfl) rfl rfl ?_) | (refine arl_off rfl rfl ?_) | (refine aw_condT (by simp +decide only [aop, abuiltin, aeval, aintBin, bin_int, aload_bump, SS, reduceIte, reduceCtorEq, f7, hbl6]; first | done | exact rfl) ?_) | (refine aw_condF (by simp +decide only [aop, abuiltin, aeval, aintBin, bin_int, aload_bump, SS, reduceIte, reduceCtorEq, f7, hbl6]; first | done | exact rfl) ?_))
      refine AW.mono (AW.wf (aw_rounds_wf (fun m fr' s' => Keeps (fun g => g = gb) s6 s' ∧ ∃ (j : Nat) (zs' : List Int), j ≤ zs.length ∧ m = zs.length - j ∧ fr' 0 = i64 most ∧ fr' 1 = v ∧ fr' 5 = .ptr p 0 ∧ fr' 6 = y ∧ fr' 7 = .sl bid 0 zs.length 1 ∧ fr' 33 = v ∧ fr' 34 = i64 ps.length ∧ fr' 35 = i64 k ∧ fr' 73 = i64 zs.length ∧ fr' 74 = i64 j ∧ Buf s' bid gb zs' ∧ zs'.length = zs.length)
        (Q := fun e fr' s' => e = .exit 4 ∧ Keeps (fun g => g = gb) s6 s' ∧ ∃ (zs' : List Int), fr' 0 = i64 most ∧ fr' 1 = v ∧ fr' 5 = .ptr p 0 ∧ fr' 6 = y ∧ fr' 7 = .sl bid 0 zs.length 1 ∧ fr' 33 = v ∧ fr' 34 = i64 ps.length ∧ fr' 35 = i64 k ∧ Buf s' bid gb zs' ∧ zs'.length = zs.length) ?_ zs.length _ _ (by repeat (first | assumption | (refine WF.bump ?_ _))) ?_) (by repeat (first | assumption | (refine WF.bump ?_ _)))) ?_
      · rintro m fr' s' hws ⟨hE', j, zs', hj, rfl, f0, f1, f5, f6, f7, f33, f34, f35, f73, f74, hB', hzl'⟩
        by_cases hjl : j < zs.length
        · have d3 : decide ((j : Int) < (zs.length : Int)) = true := decide_eq_true (by omega)
          have hix := Buf.idx (s := s') (bid := bid) (gb := gb) (N := zs.length) (j := j) hjl
          have hwk := wrap_succ (k := j) (by omega)
          repeat (first | (refine aw_seq ?_) | (refine aw_reg0 (by simp only [SZ, Nat.reduceAdd]; exact rfl) ?_) | (refine aw_reg (by decide +kernel) (by simp only [SZ, Nat.reduceAdd]; exact rfl) ?_) | (refine aw_regS (by decide +kernel) (by simp only [SZ, Nat.reduceAdd]; exact rfl) ?_) | (refine arl_nil ?_) | (refine aw_skip ?_) | (refine aw_block ?_) | (refine aw_exit ?_) | (refine aw_ret ?_) | (refine arl_cons rfl rfl (by simp +decide only [aop, abuiltin, aeval, aintBin, bin_int, aload_bump, SS, reduceIte, reduceCtorEq, f73, f74, d3, f7, hix, conv_int Try.underlying3 Try.underlying5]; exact rfl) (by first | rfl | with_reducible assumption) rfl ?_) | (refine arl_none rfl rfl (by simp +decide only [aop, abuiltin, aeval, aintBin, bin_int, aload_bump, SS, reduceIte, reduceCtorEq, f73, f74, d3, f7, hix, conv_int Try.underlying3 Try.underlying5]; exact rfl) rfl rfl ?_) | (refine arl_off rfl rfl ?_) | (refine aw_condT (by simp +decide only [aop, abuiltin, aeval, aintBin, bin_int, aload_bump, SS, reduceIte, reduceCtorEq, f73, f74, d3, f7, hix, conv_int Try.underlying3 Try.underlying5]; first | done | exact rfl) ?_) | (refine aw_condF (by simp +decide only [aop, abuiltin, aeval, aintBin, bin_int, aload_bump, SS, reduceIte, reduceCtorEq, f73, f74, d3, f7, hix, conv_int Try.underlying3 Try.underlying5]; first | done | exact rfl) ?_))
          refine arl_store (y := bits .xor .u8 (IntKind.u8.wrap (j : Int)) 165) (xs := zs') (i := bid) (g := gb) (k := j) rfl rfl rfl (by simp only [aeval, aput_at]; rfl) (by simp only [aeval, aput_at]; rfl) hB' (by omega) ?_
          repeat (first | (refine aw_seq ?_) | (refine aw_reg0 (by simp only [SZ, Nat.reduceAdd]; exact rfl) ?_) | (refine aw_reg (by decide +kernel) (by simp only [SZ, Nat.reduceAdd]; exact rfl) ?_) | (refine aw_regS (by decide +kernel) (by simp only [SZ, Nat.reduceAdd]; exact rfl) ?_) | (refine arl_nil ?_) | (refine aw_skip ?_) | (refine aw_block ?_) | (refine aw_exit ?_) | (refine aw_ret ?_) | (refine arl_cons rfl rfl (by simp +decide only [aop, abuiltin, aeval, aintBin, bin_int, aload_bump, SS, reduceIte, reduceCtorEq, f74, hwk]; exact rfl) (by first | rfl | with_reducible assumption) rfl ?_) | (refine arl_none rfl rfl (by simp +decide only [aop, abuiltin, aeval, aintBin, bin_int, aload_bump, SS, reduceIte, reduceCtorEq, f74, hwk]; exact rfl) rfl rfl ?_) | (refine arl_off rfl rfl ?_) | (refine aw_condT (by simp +decide only [aop, abuiltin, aeval, aintBin, bin_int, aload_bump, SS, reduceIte, reduceCtorEq, f74, hwk]; first | done | exact rfl) ?_) | (refine aw_condF (by simp +decide only [aop, abuiltin, aeval, aintBin, bin_int, aload_bump, SS, reduceIte, reduceCtorEq, f74, hwk]; first | done | exact rfl) ?_))
          refine ⟨zs.length - (j + 1), by omega, ?_, j + 1, zs'.set j (bits .xor .u8 (IntKind.u8.wrap (j : Int)) 165), by omega, rfl, f0, f1, f5, f6, f7, f33, f34, f35, f73, rfl, get_put _ _, by simp; omega⟩
          exact ((Keeps.trans hE' (Keeps.mono (G := fun _ => False) (show Ext s' (((s'.bump 1).bump 2).bump 7) from (by repeat (first | exact Keeps.refl _ _ | (refine Keeps.bumpR ?_ _)))) (fun _ h => h.elim))).trans (Keeps.write1 (o := ⟨_, 5, true, gb⟩) (show (((s'.bump 1).bump 2).bump 7).get bid = _ from hB') j 1)).bumpR _
        · have d3 : decide ((j : Int) < (zs.length : Int)) = false := decide_eq_false (by omega)
          repeat (first | (refine aw_seq ?_) | (refine aw_reg0 (by simp only [SZ, Nat.reduceAdd]; exact rfl) ?_) | (refine aw_reg (by decide +kernel) (by simp only [SZ, Nat.reduceAdd]; exact rfl) ?_) | (refine aw_regS (by decide +kernel) (by simp only [SZ, Nat.reduceAdd]; exact rfl) ?_) | (refine arl_nil ?_) | (refine aw_skip ?_) | (refine aw_block ?_) | (refine aw_exit ?_) | (refine aw_ret ?_) | (refine arl_cons rfl rfl (by simp +decide only [aop, abuiltin, aeval, aintBin, bin_int, aload_bump, SS, reduceIte, reduceCtorEq, f73, f74, d3]; exact rfl) (by first | rfl | with_reducible assumption) rfl ?_) | (refine arl_none rfl rfl (by simp +decide only [aop, abuiltin, aeval, aintBin, bin_int, aload_bump, SS, reduceIte, reduceCtorEq, f73, f74, d3]; exact rfl) rfl rfl ?_) | (refine arl_off rfl rfl ?_) | (refine aw_condT (by simp +decide only [aop, abuiltin, aeval, aintBin, bin_int, aload_bump, SS, reduceIte, reduceCtorEq, f73, f74, d3]; first | done | exact rfl) ?_) | (refine aw_condF (by simp +decide only [aop, abuiltin, aeval, aintBin, bin_int, aload_bump, SS, reduceIte, reduceCtorEq, f73, f74, d3]; first | done | exact rfl) ?_))
          exact ⟨rfl, hE'.trans (Keeps.mono (G := fun _ => False) (by repeat (first | exact Keeps.refl _ _ | (refine Keeps.bumpR ?_ _))) (fun _ h => h.elim)), zs', f0, f1, f5, f6, f7, f33, f34, f35, hB', hzl'⟩
      · exact ⟨Keeps.mono (G := fun _ => False) (by repeat (first | exact Keeps.refl _ _ | (refine Keeps.bumpR ?_ _))) (fun _ h => h.elim), 0, zs', by omega, rfl, f0, f1, f5, rfl, f7, f33, f34, f35, rfl, rfl, hB6, hzl'⟩
      clear f0 f1 f5 f6 f7 f9 f33 f34 f35 hB hzl' hbl6
      rintro e fr3 s7 ⟨hw7, hn7, rfl, hE7, zs2, f0, f1, f5, f6, f7, f33, f34, f35, hB7, hzl2⟩
      have hN7 := hE7.n
      have hwk := wrap_succ (k := k) (by omega)
      repeat (first | (refine aw_seq ?_) | (refine aw_reg0 (by simp only [SZ, Nat.reduceAdd]; exact rfl) ?_) | (refine aw_reg (by decide +kernel) (by simp only [SZ, Nat.reduceAdd]; exact rfl) ?_) | (refine aw_regS (by decide +kernel) (by simp only [SZ, Nat.reduceAdd]; exact rfl) ?_) | (refine arl_nil ?_) | (refine aw_skip ?_) | (refine aw_block ?_) | (refine aw_exit ?_) | (refine aw_ret ?_) | (refine arl_cons rfl rfl (by simp +decide only [aop, abuiltin, aeval, aintBin, bin_int, aload_bump, SS, reduceIte, reduceCtorEq, f35, hwk]; exact rfl) (by first | rfl | with_reducible assumption) rfl ?_) | (refine arl_none rfl rfl (by simp +decide only [aop, abuiltin, aeval, aintBin, bin_int, aload_bump, SS, reduceIte, reduceCtorEq, f35, hwk]; exact rfl) rfl rfl ?_) | (refine arl_off rfl rfl ?_) | (refine aw_condT (by simp +decide only [aop, abuiltin, aeval, aintBin, bin_int, aload_bump, SS, reduceIte, reduceCtorEq, f35, hwk]; first | done | exact rfl) ?_) | (refine aw_condF (by simp +decide only [aop, abuiltin, aeval, aintBin, bin_int, aload_bump, SS, reduceIte, reduceCtorEq, f35, hwk]; first | done | exact rfl) ?_))
      refine ⟨ps.length - (k + 1), by omega, (Keeps.call hT6 hE7 hw (fun g hg => .inr (by omega))).trans (by repeat (first | exact Keeps.refl _ _ | (refine Keeps.bumpR ?_ _))), k + 1, KH', KB', KO, _, bid, gb, zs2, by omega, rfl, f0, f1, f5, ?_, by rw [hzl2]; exact f7, f33, f34, rfl, ?_, ?_, hS5.more (by first | omega | (simp only [n_bump, n_put]; omega) | (simp only [n_bump, n_put] at *; omega)), hB7, by omega, hgb, by simp only [n_bump]; omega, bH', bB', bO, fun j hj => ?_⟩
      · show fr3 6 ≠ _; rw [f6]; exact hyn f6n
      · rw [flatF_succ ps k hlt, hpk]
        exact (hF6.keep hE7 (fun h => by omega) (fun g hg h => bH' (by rw [← h]; exact hg)) (fun g hg h => bB' (by rw [← h]; exact hg))).up (by repeat (first | exact Keeps.refl _ _ | (refine Keeps.bumpR ?_ _)))
      · rw [flatF_succ ps k hlt, hpk]
        show OwX _ _ _ _ _ (fr3 6) _
        rw [f6]
        exact (hO6.keep hE7 (fun g hg h => bO (by rw [← h]; exact hg)) (fun j g hg h => by rcases hg with hg | hg; exact bL j (by rw [← h]; exact hg.2); exact bL' _ (by rw [← h]; exact hg.2))).up (by repeat (first | exact Keeps.refl _ _ | (refine Keeps.bumpR ?_ _)))
      · rcases hj with hg | hg
        · exact bL j hg.2
        · exact bL' _ hg.2
    · have d1 : decide ((k : Int) < (ps.length : Int)) = false := decide_eq_false (by omega)
      obtain rfl : k = ps.length := by omega
      rw [List.take_length] at hF hO
      repeat (first | (refine aw_seq ?_) | (refine aw_reg0 (by simp only [SZ, Nat.reduceAdd]; exact rfl) ?_) | (refine aw_reg (by decide +kernel) (by simp only [SZ, Nat.reduceAdd]; exact rfl) ?_) | (refine aw_regS (by decide +kernel) (by simp only [SZ, Nat.reduceAdd]; exact rfl) ?_) | (refine arl_nil ?_) | (refine aw_skip ?_) | (refine aw_block ?_) | (refine aw_exit ?_) | (refine aw_ret ?_) | (refine arl_cons rfl rfl (by simp +decide only [aop, abuiltin, aeval, aintBin, bin_int, aload_bump, SS, reduceIte, reduceCtorEq, f35, f34, d1]; exact rfl) (by first | rfl | with_reducible assumption) rfl ?_) | (refine arl_none rfl rfl (by simp +decide only [aop, abuiltin, aeval, aintBin, bin_int, aload_bump, SS, reduceIte, reduceCtorEq, f35, f34, d1]; exact rfl) rfl rfl ?_) | (refine arl_off rfl rfl ?_) | (refine aw_condT (by simp +decide only [aop, abuiltin, aeval, aintBin, bin_int, aload_bump, SS, reduceIte, reduceCtorEq, f35, f34, d1]; first | done | exact rfl) ?_) | (refine aw_condF (by simp +decide only [aop, abuiltin, aeval, aintBin, bin_int, aload_bump, SS, reduceIte, reduceCtorEq, f35, f34, d1]; first | done | exact rfl) ?_))
      exact ⟨rfl, hE.trans (by repeat (first | exact Keeps.refl _ _ | (refine Keeps.bumpR ?_ _))), KH, KB, KO, LO, f0, f1, f5, hF.up (by repeat (first | exact Keeps.refl _ _ | (refine Keeps.bumpR ?_ _))), by show OwX _ _ _ _ _ (fr 6) _; rw [f6]; exact hO.up (by repeat (first | exact Keeps.refl _ _ | (refine Keeps.bumpR ?_ _))), hS.more (by first | omega | (simp only [n_bump, n_put]; omega) | (simp only [n_bump, n_put] at *; omega))⟩
  · refine ⟨hS2.trans (by repeat (first | assumption | exact Keeps.refl _ _ | (refine Keeps.bumpR ?_ _) | (refine Keeps.put ?_ (by assumption) (by simp only [n_bump, n_put, n_touch, n_kill] at *; omega)))), 0, fun _ => False, fun _ => False, fun g => g = s2.n, fun _ _ => False, s2.n + 2, s2.n + 2, List.replicate 64 (0 : Int), by omega, rfl, rfl, rfl, rfl, ?_, ?_, rfl, rfl, rfl, ?_, ?_, ?_, by unfold Buf; exact get_put _ _, by simp, by omega, by simp only [n_bump, n_put]; omega, fun h => h, fun h => h, by simp only; omega, fun _ h => h⟩
    · intro h; cases h
    · rw [List.length_replicate]; rfl
    · rw [List.take_zero]; exact hF1.up (by repeat (first | assumption | exact Keeps.refl _ _ | (refine Keeps.bumpR ?_ _) | (refine Keeps.put ?_ (by assumption) (by simp only [n_bump, n_put, n_touch, n_kill] at *; omega))))
    · rw [List.take_zero, List.flatten_nil, cutS_nil]
      exact OwX.new _ ((get_put_ne _ (by first | omega | (simp only [n_bump, n_put]; omega) | (simp only [n_bump, n_put] at *; omega))).trans (get_put _ _)) rfl
    · refine ⟨fun g hg => ⟨by omega, by simp only [n_bump, n_put]; omega, fun h => h, fun h => h⟩, fun _ _ h => h.elim, fun _ _ _ h => h.elim, fun _ _ _ h => h.elim⟩
  rintro e fr sx ⟨hwx, hnx, rfl, hE, KH, KB, KO, LO, f0, f1, f5, hF, hO, hS⟩
  have hEn := hE.n
  have hlx : lo ≤ sx.n := hF.2.1
  have hKB : ∀ g, KB g → lo ≤ g ∧ g < sx.n := hF.2.2.2.1
  have hKH : ∀ g, KH g → lo ≤ g ∧ g < sx.n := hF.2.2.1
  have hcl := cut_lens (bndF most) ps.flatten
  obtain ⟨ov, f6⟩ : ∃ x, fr 6 = x := ⟨_, rfl⟩
  rw [f6] at hO
  have hovs := hO.solid
  repeat (first | (refine aw_seq ?_) | (refine aw_reg0 (by simp only [SZ, Nat.reduceAdd]; exact rfl) ?_) | (refine aw_reg (by decide +kernel) (by simp only [SZ, Nat.reduceAdd]; exact rfl) ?_) | (refine aw_regS (by decide +kernel) (by simp only [SZ, Nat.reduceAdd]; exact rfl) ?_) | (refine arl_nil ?_) | (refine aw_skip ?_) | (refine aw_block ?_) | (refine aw_exit ?_) | (refine aw_ret ?_) | (refine arl_cons rfl rfl (by simp +decide only [aop, abuiltin, aeval, aintBin, bin_int, aload_bump, SS, reduceIte, reduceCtorEq, f0, f1]; exact rfl) (by first | rfl | with_reducible assumption) rfl ?_) | (refine arl_none rfl rfl (by simp +decide only [aop, abuiltin, aeval, aintBin, bin_int, aload_bump, SS, reduceIte, reduceCtorEq, f0, f1]; exact rfl) rfl rfl ?_) | (refine arl_off rfl rfl ?_) | (refine aw_condT (by simp +decide only [aop, abuiltin, aeval, aintBin, bin_int, aload_bump, SS, reduceIte, reduceCtorEq, f0, f1]; first | done | exact rfl) ?_) | (refine aw_condF (by simp +decide only [aop, abuiltin, aeval, aintBin, bin_int, aload_bump, SS, reduceIte, reduceCtorEq, f0, f1]; first | done | exact rfl) ?_))
  refine arl_call rfl rfl rfl rfl rfl rfl ((rall_ok (by repeat (first | assumption | (refine WF.bump ?_ _))) ((h.up hE).up (by repeat (first | exact Keeps.refl _ _ | (refine Keeps.bumpR ?_ _)))) (by omega)).dead.wf (by repeat (first | assumption | (refine WF.bump ?_ _) | (refine WF.put ?_ (by simp only [n_bump, n_put, n_touch, n_kill] at *; omega) (by simp only [n_bump, n_put, n_touch, n_kill] at *; omega)))) |>.mono ?_)
  rintro av s4 ⟨hw4, hn4, hd4, hE4, has, hA⟩
  refine ⟨has, ?_⟩
  replace hE4 : Ext sx s4 := Keeps.trans (show Ext sx _ from (by repeat (first | exact Keeps.refl _ _ | (refine Keeps.bumpR ?_ _)))) hE4
  have hN4 := hE4.n
  repeat (first | (refine aw_seq ?_) | (refine aw_reg0 (by simp only [SZ, Nat.reduceAdd]; exact rfl) ?_) | (refine aw_reg (by decide +kernel) (by simp only [SZ, Nat.reduceAdd]; exact rfl) ?_) | (refine aw_regS (by decide +kernel) (by simp only [SZ, Nat.reduceAdd]; exact rfl) ?_) | (refine arl_nil ?_) | (refine aw_skip ?_) | (refine aw_block ?_) | (refine aw_exit ?_) | (refine aw_ret ?_) | (refine arl_cons rfl rfl (by simp +decide only [aop, abuiltin, aeval, aintBin, bin_int, aload_bump, SS, reduceIte, reduceCtorEq]; exact rfl) (by first | rfl | with_reducible assumption) rfl ?_) | (refine arl_none rfl rfl (by simp +decide only [aop, abuiltin, aeval, aintBin, bin_int, aload_bump, SS, reduceIte, reduceCtorEq]; exact rfl) rfl rfl ?_) | (refine arl_off rfl rfl ?_) | (refine aw_condT (by simp +decide only [aop, abuiltin, aeval, aintBin, bin_int, aload_bump, SS, reduceIte, reduceCtorEq]; first | done | exact rfl) ?_) | (refine aw_condF (by simp +decide only [aop, abuiltin, aeval, aintBin, bin_int, aload_bump, SS, reduceIte, reduceCtorEq]; first | done | exact rfl) ?_))
  refine arl_call rfl rfl rfl rfl rfl rfl ((rcut_ok (by repeat (first | assumption | (refine WF.bump ?_ _))) most (hA.rd.up (by repeat (first | exact Keeps.refl _ _ | (refine Keeps.bumpR ?_ _)))) (by omega) hby').dead.wf (by repeat (first | assumption | (refine WF.bump ?_ _) | (refine WF.put ?_ (by simp only [n_bump, n_put, n_touch, n_kill] at *; omega) (by simp only [n_bump, n_put, n_touch, n_kill] at *; omega)))) |>.mono ?_)
  rintro r s5 ⟨hw5, hn5, hd5, hE5, wa, rfl, hwas, hWa⟩
  refine ⟨rfl, ?_⟩
  replace hE5 : Ext s4 s5 := Keeps.trans (show Ext s4 _ from (by repeat (first | exact Keeps.refl _ _ | (refine Keeps.bumpR ?_ _)))) hE5
  have hN5 := hE5.n
  obtain ⟨all, hall⟩ : ∃ b, ps.flatten = b := ⟨_, rfl⟩
  rw [hall] at hF hO hcl hWa hby' hl ⊢
  obtain ⟨Q, hQ⟩ : ∃ Q, cutS (bndF most) all = Q := ⟨_, rfl⟩
  obtain ⟨k1, k2, k3, k4, k5, kk, k6⟩ := cutS_ok (bndF most) all.length all (Nat.le_refl _)
  have happ := fun c => cutS_app (bndF most) c all.length all (Nat.le_refl _)
  rw [hQ] at hO hcl hWa k1 k2 k5 k6 ⊢
  obtain ⟨qa, qb, qc, qd, hst, hqb, hqc, hqd⟩ : ∃ qa qb qc qd : Int, stOf all Q = stT qa qb qc qd ∧ qb = (all.length : Int) - Q.2.1.length ∧ qc = (if Q.2.2 = 0 then (Q.2.1.length : Int) else 0) ∧ qd = Q.2.2 := ⟨_, _, _, _, rfl, rfl, rfl, rfl⟩
  rw [hst]
  have hne := stNe qa qb qc qd
  repeat (first | (refine aw_seq ?_) | (refine aw_reg0 (by simp only [SZ, Nat.reduceAdd]; exact rfl) ?_) | (refine aw_reg (by decide +kernel) (by simp only [SZ, Nat.reduceAdd]; exact rfl) ?_) | (refine aw_regS (by decide +kernel) (by simp only [SZ, Nat.reduceAdd]; exact rfl) ?_) | (refine arl_nil ?_) | (refine aw_skip ?_) | (refine aw_block ?_) | (refine aw_exit ?_) | (refine aw_ret ?_) | (refine arl_cons rfl rfl (by simp +decide only [aop, abuiltin, aeval, aintBin, bin_int, aload_bump, SS, reduceIte, reduceCtorEq]; exact rfl) (by first | rfl | with_reducible assumption) rfl ?_) | (refine arl_none rfl rfl (by simp +decide only [aop, abuiltin, aeval, aintBin, bin_int, aload_bump, SS, reduceIte, reduceCtorEq]; exact rfl) rfl rfl ?_) | (refine arl_off rfl rfl ?_) | (refine aw_condT (by simp +decide only [aop, abuiltin, aeval, aintBin, bin_int, aload_bump, SS, reduceIte, reduceCtorEq]; first | done | exact rfl) ?_) | (refine aw_condF (by simp +decide only [aop, abuiltin, aeval, aintBin, bin_int, aload_bump, SS, reduceIte, reduceCtorEq]; first | done | exact rfl) ?_))
  refine arl_storeW (e := ST) (cs := [i64 qa, i64 qb, i64 qc, i64 qd]) rfl rfl rfl rfl rfl (get_put _ _) szST rfl rfl rfl rfl rfl ?_
  intro s6 hn6 hwf6 hK6 hg6 hD6
  obtain ⟨nc, hnc⟩ : ∃ nc, sx.n + (0 + 1 + 1 + 1 + 1 + 1 + 1 + 1) = nc := ⟨_, rfl⟩
  rw [hnc] at hwf6 hK6 hg6 hD6 ⊢
  simp only [n_bump] at hn4
  have hw6 : WF s6 := hwf6 (WF.put hw5 (show nc < s5.n by omega) (show nc < s5.n by omega))
  have hput : ∀ o : AObj, Ext s5 (s5.put nc o) := fun o => Keeps.putF (Keeps.refl _ _) (hd5 _ (by first | omega | (simp only [n_bump, n_put]; omega) | (simp only [n_bump, n_put] at *; omega)) (hd4 _ (by first | omega | (simp only [n_bump, n_put]; omega) | (simp only [n_bump, n_put] at *; omega)) (fresh hwx (by omega))))
  have hE6 : Ext sx s6 := Keeps.call (hE4.trans (Keeps.trans hE5 (hput _))) hK6 hwx (fun g hg => .inr (by omega))
  have hn6' : s6.n = s5.n := by rw [hn6]; rfl
  have hWa6 := ((hWa.lt hw5).up (hput _)).keep hK6 (fun g hg h => by have := hg.1; first | omega | (simp only [n_bump] at *; omega))
  have hls : aload Try.prog s6 ST (.ptr nc 0) = some (stT qa qb qc qd) := load_agg Try.underlying34 rfl szST hg6 (by simp)
  have hO6 := hO.up hE6
  have hF6 := hF.up hE6
  have hll : ∀ f ∈ Q.1, f.length ≤ 10000000 := fun f hf => by have := hcl.2 f hf; omega
  have hll2 : ∀ f ∈ Q.1, f.length ≤ 140737488355327 := fun f hf => by have := hll f hf; omega
  repeat (first | (refine aw_seq ?_) | (refine aw_reg0 (by simp only [SZ, Nat.reduceAdd]; exact rfl) ?_) | (refine aw_reg (by decide +kernel) (by simp only [SZ, Nat.reduceAdd]; exact rfl) ?_) | (refine aw_regS (by decide +kernel) (by simp only [SZ, Nat.reduceAdd]; exact rfl) ?_) | (refine arl_nil ?_) | (refine aw_skip ?_) | (refine aw_block ?_) | (refine aw_exit ?_) | (refine aw_ret ?_) | (refine arl_cons rfl rfl (by simp +decide only [aop, abuiltin, aeval, aintBin, bin_int, aload_bump, SS, reduceIte, reduceCtorEq, f6]; exact rfl) (by first | rfl | with_reducible assumption) rfl ?_) | (refine arl_none rfl rfl (by simp +decide only [aop, abuiltin, aeval, aintBin, bin_int, aload_bump, SS, reduceIte, reduceCtorEq, f6]; exact rfl) rfl rfl ?_) | (refine arl_off rfl rfl ?_) | (refine aw_condT (by simp +decide only [aop, abuiltin, aeval, aintBin, bin_int, aload_bump, SS, reduceIte, reduceCtorEq, f6]; first | done | exact rfl) ?_) | (refine aw_condF (by simp +decide only [aop, abuiltin, aeval, aintBin, bin_int, aload_bump, SS, reduceIte, reduceCtorEq, f6]; first | done | exact rfl) ?_))
  refine arl_callS rfl rfl rfl rfl rfl rfl ((ralike_ok (by repeat (first | assumption | (refine WF.bump ?_ _))) ((oRow_rd hO6).rd.up (by repeat (first | exact Keeps.refl _ _ | (refine Keeps.bumpR ?_ _)))) (hWa6.up (by repeat (first | exact Keeps.refl _ _ | (refine Keeps.bumpR ?_ _)))) (by omega) hll2).wf (by repeat (first | assumption | (refine WF.bump ?_ _) | (refine WF.put ?_ (by simp only [n_bump, n_put, n_touch, n_kill] at *; omega) (by simp only [n_bump, n_put, n_touch, n_kill] at *; omega)))) |>.mono ?_)
  rintro r s7 ⟨hw7, hn7, hE7, rfl⟩
  refine ⟨hE7, by first | rfl | with_reducible assumption, ?_⟩
  replace hE7 : Ext s6 s7 := Keeps.trans (by repeat (first | assumption | exact Keeps.refl _ _ | (refine Keeps.bumpR ?_ _) | (refine Keeps.put ?_ (by assumption) (by simp only [n_bump, n_put, n_touch, n_kill] at *; omega)))) hE7
  have hN7 := hE7.n
  repeat (first | (refine aw_seq ?_) | (refine aw_reg0 (by simp only [SZ, Nat.reduceAdd]; exact rfl) ?_) | (refine aw_reg (by decide +kernel) (by simp only [SZ, Nat.reduceAdd]; exact rfl) ?_) | (refine aw_regS (by decide +kernel) (by simp only [SZ, Nat.reduceAdd]; exact rfl) ?_) | (refine arl_nil ?_) | (refine aw_skip ?_) | (refine aw_block ?_) | (refine aw_exit ?_) | (refine aw_ret ?_) | (refine arl_cons rfl rfl (by simp +decide only [aop, abuiltin, aeval, aintBin, bin_int, aload_bump, SS, reduceIte, reduceCtorEq, f5]; exact rfl) (by first | rfl | with_reducible assumption) rfl ?_) | (refine arl_none rfl rfl (by simp +decide only [aop, abuiltin, aeval, aintBin, bin_int, aload_bump, SS, reduceIte, reduceCtorEq, f5]; exact rfl) rfl rfl ?_) | (refine arl_off rfl rfl ?_) | (refine aw_condT (by simp +decide only [aop, abuiltin, aeval, aintBin, bin_int, aload_bump, SS, reduceIte, reduceCtorEq, f5]; first | done | exact rfl) ?_) | (refine aw_condF (by simp +decide only [aop, abuiltin, aeval, aintBin, bin_int, aload_bump, SS, reduceIte, reduceCtorEq, f5]; first | done | exact rfl) ?_))
  refine arl_callS rfl rfl rfl rfl rfl rfl ((fstate_ok (by repeat (first | assumption | (refine WF.bump ?_ _))) ((hF6.up hE7).up (by repeat (first | exact Keeps.refl _ _ | (refine Keeps.bumpR ?_ _)))) (by omega)).wf (by repeat (first | assumption | (refine WF.bump ?_ _) | (refine WF.put ?_ (by simp only [n_bump, n_put, n_touch, n_kill] at *; omega) (by simp only [n_bump, n_put, n_touch, n_kill] at *; omega)))) |>.mono ?_)
  rintro r s8 ⟨hw8, hn8, hE8, rfl⟩
  refine ⟨hE8, by first | rfl | with_reducible assumption, ?_⟩
  replace hE8 : Ext s7 s8 := Keeps.trans (by repeat (first | assumption | exact Keeps.refl _ _ | (refine Keeps.bumpR ?_ _) | (refine Keeps.put ?_ (by assumption) (by simp only [n_bump, n_put, n_touch, n_kill] at *; omega)))) hE8
  have hN8 := hE8.n
  rw [hQ, hst]
  have hls8 := aload_up (hE7.trans hE8) hls
  repeat (first | (refine aw_seq ?_) | (refine aw_reg0 (by simp only [SZ, Nat.reduceAdd]; exact rfl) ?_) | (refine aw_reg (by decide +kernel) (by simp only [SZ, Nat.reduceAdd]; exact rfl) ?_) | (refine aw_regS (by decide +kernel) (by simp only [SZ, Nat.reduceAdd]; exact rfl) ?_) | (refine arl_nil ?_) | (refine aw_skip ?_) | (refine aw_block ?_) | (refine aw_exit ?_) | (refine aw_ret ?_) | (refine arl_cons rfl rfl (by simp +decide only [aop, abuiltin, aeval, aintBin, bin_int, aload_bump, SS, reduceIte, reduceCtorEq, hls8, hne, f6]; exact rfl) (by first | rfl | with_reducible assumption) rfl ?_) | (refine arl_none rfl rfl (by simp +decide only [aop, abuiltin, aeval, aintBin, bin_int, aload_bump, SS, reduceIte, reduceCtorEq, hls8, hne, f6]; exact rfl) rfl rfl ?_) | (refine arl_off rfl rfl ?_) | (refine aw_condT (by simp +decide only [aop, abuiltin, aeval, aintBin, bin_int, aload_bump, SS, reduceIte, reduceCtorEq, hls8, hne, f6]; first | done | exact rfl) ?_) | (refine aw_condF (by simp +decide only [aop, abuiltin, aeval, aintBin, bin_int, aload_bump, SS, reduceIte, reduceCtorEq, hls8, hne, f6]; first | done | exact rfl) ?_))
  have hS8 := hE7.trans hE8
  have hcl1 := hcl.1
  refine arl_call rfl rfl rfl rfl rfl rfl ((spoils_ok (by repeat (first | assumption | (refine WF.bump ?_ _))) ((hO6.up hS8).up (by repeat (first | exact Keeps.refl _ _ | (refine Keeps.bumpR ?_ _)))) hS.d (fun j g hg => hS.x j g hg) ((hWa6.up hS8).up (by repeat (first | exact Keeps.refl _ _ | (refine Keeps.bumpR ?_ _)))) (fun g hg j hj => by have := hS.l j g hj; have := hg.1; first | omega | (simp only [n_bump] at *; omega)) (by omega) hll).wf (by repeat (first | assumption | (refine WF.bump ?_ _) | (refine WF.put ?_ (by simp only [n_bump, n_put, n_touch, n_kill] at *; omega) (by simp only [n_bump, n_put, n_touch, n_kill] at *; omega)))) |>.mono ?_)
  rintro r s9 ⟨hw9, hn9, hE9, rfl⟩
  refine ⟨rfl, ?_⟩
  replace hE9 : Keeps (fun g => ∃ j, LO j g) s8 s9 := Keeps.trans (Keeps.mono (G := fun _ => False) (show Ext s8 _ from (by repeat (first | exact Keeps.refl _ _ | (refine Keeps.bumpR ?_ _)))) (fun _ h => h.elim)) hE9
  have hN6 := hE6.n
  have hN8 := hS8.n
  have hN9 := hE9.n
  have hT9 : Ext st s9 := Keeps.call ((hE.trans hE6).trans hS8) hE9 hw (fun g ⟨j, hj⟩ => .inr (by have := hS.l j g hj; omega))
  have hF9 := (hF6.up hS8).keep hE9 (fun ⟨j, hj⟩ => by have := hS.l j _ hj; omega) (fun g hg ⟨j, hj⟩ => (hS.l j g hj).2.2.1 hg) (fun g hg ⟨j, hj⟩ => (hS.l j g hj).2.2.2 hg)
  have hg9 := hE9.get _ _ (hS8.get _ _ hg6 (fun h => h)) (fun ⟨j, hj⟩ => by have := hS.l j _ hj; simp only at this; omega)
  have hS9 : Sob s9 nc qa qb qc qd := hg9
  obtain ⟨l0, l1, l2, l3, l4⟩ := hS9.lds
  by_cases hz : Q.2.2 = 0
  · have e1 : (qd != 0) = false := by rw [hqd, hz]; rfl
    rw [if_pos hz] at hqc
    by_cases h4 : Q.2.1.length < 4
    · have e2 : decide (qc < 4) = true := decide_eq_true (by omega)
      repeat (first | (refine aw_seq ?_) | (refine aw_reg0 (by simp only [SZ, Nat.reduceAdd]; exact rfl) ?_) | (refine aw_reg (by decide +kernel) (by simp only [SZ, Nat.reduceAdd]; exact rfl) ?_) | (refine aw_regS (by decide +kernel) (by simp only [SZ, Nat.reduceAdd]; exact rfl) ?_) | (refine arl_nil ?_) | (refine aw_skip ?_) | (refine aw_block ?_) | (refine aw_exit ?_) | (refine aw_ret ?_) | (refine arl_cons rfl rfl (by simp +decide only [aop, abuiltin, aeval, aintBin, bin_int, aload_bump, SS, reduceIte, reduceCtorEq, fs3, l3, e1, fs2, l2, e2]; exact rfl) (by first | rfl | with_reducible assumption) rfl ?_) | (refine arl_none rfl rfl (by simp +decide only [aop, abuiltin, aeval, aintBin, bin_int, aload_bump, SS, reduceIte, reduceCtorEq, fs3, l3, e1, fs2, l2, e2]; exact rfl) rfl rfl ?_) | (refine arl_off rfl rfl ?_) | (refine aw_condT (by simp +decide only [aop, abuiltin, aeval, aintBin, bin_int, aload_bump, SS, reduceIte, reduceCtorEq, fs3, l3, e1, fs2, l2, e2]; first | done | exact rfl) ?_) | (refine aw_condF (by simp +decide only [aop, abuiltin, aeval, aintBin, bin_int, aload_bump, SS, reduceIte, reduceCtorEq, fs3, l3, e1, fs2, l2, e2]; first | done | exact rfl) ?_))
      exact ⟨.inr rfl, _, rfl, rfl⟩
    · have e2 : decide (qc < 4) = false := decide_eq_false (by omega)
      have hPd := k1 hz
      obtain ⟨R, hR⟩ : ∃ R, Q.2.1 = R := ⟨_, rfl⟩
      rw [hR] at hqb hqc h4 hPd k2 k6
      have hp : 0 ≤ hd R ∧ hd R ≤ bndF most ∧ (R.length : Int) - 4 < hd R := hPd.resolve_left h4
      have hbyR : ∀ x ∈ R, 0 ≤ x ∧ x < 256 := fun x hx => hby' x (by rw [k6] at hx; exact List.mem_of_mem_drop hx)
      have hpc : (all.drop qb.toNat).take ((all.length : Int).toNat - qb.toNat) = R := by
        have hkl : R.length = all.length - kk := by rw [k6, List.length_drop]
        have : qb.toNat = kk := by omega
        rw [this, ← k6, List.take_of_length_le (by omega)]
      repeat (first | (refine aw_seq ?_) | (refine aw_reg0 (by simp only [SZ, Nat.reduceAdd]; exact rfl) ?_) | (refine aw_reg (by decide +kernel) (by simp only [SZ, Nat.reduceAdd]; exact rfl) ?_) | (refine aw_regS (by decide +kernel) (by simp only [SZ, Nat.reduceAdd]; exact rfl) ?_) | (refine arl_nil ?_) | (refine aw_skip ?_) | (refine aw_block ?_) | (refine aw_exit ?_) | (refine aw_ret ?_) | (refine arl_cons rfl rfl (by simp +decide only [aop, abuiltin, aeval, aintBin, bin_int, aload_bump, SS, reduceIte, reduceCtorEq, fs3, l3, e1, fs2, l2, e2, f1]; exact rfl) (by first | rfl | with_reducible assumption) rfl ?_) | (refine arl_none rfl rfl (by simp +decide only [aop, abuiltin, aeval, aintBin, bin_int, aload_bump, SS, reduceIte, reduceCtorEq, fs3, l3, e1, fs2, l2, e2, f1]; exact rfl) rfl rfl ?_) | (refine arl_off rfl rfl ?_) | (refine aw_condT (by simp +decide only [aop, abuiltin, aeval, aintBin, bin_int, aload_bump, SS, reduceIte, reduceCtorEq, fs3, l3, e1, fs2, l2, e2, f1]; first | done | exact rfl) ?_) | (refine aw_condF (by simp +decide only [aop, abuiltin, aeval, aintBin, bin_int, aload_bump, SS, reduceIte, reduceCtorEq, fs3, l3, e1, fs2, l2, e2, f1]; first | done | exact rfl) ?_))
      refine arl_call rfl rfl rfl rfl rfl rfl ((rall_ok (by repeat (first | assumption | (refine WF.bump ?_ _))) ((h.up hT9).up (by repeat (first | exact Keeps.refl _ _ | (refine Keeps.bumpR ?_ _)))) (by rw [hall]; omega)).wf (by repeat (first | assumption | (refine WF.bump ?_ _) | (refine WF.put ?_ (by simp only [n_bump, n_put, n_touch, n_kill] at *; omega) (by simp only [n_bump, n_put, n_touch, n_kill] at *; omega)))) |>.mono ?_)
      rintro al s10 ⟨hw10, hn10, hE10, hals, hAl⟩
      refine ⟨by first | rfl | with_reducible assumption, ?_⟩
      replace hE10 : Ext s9 s10 := Keeps.trans (by repeat (first | assumption | exact Keeps.refl _ _ | (refine Keeps.bumpR ?_ _) | (refine Keeps.put ?_ (by assumption) (by simp only [n_bump, n_put, n_touch, n_kill] at *; omega)))) hE10
      have hN10 := hE10.n
      rw [hall] at hAl
      have hla := hAl.rd.len
      have l1' := aload_up hE10 l1
      repeat (first | (refine aw_seq ?_) | (refine aw_reg0 (by simp only [SZ, Nat.reduceAdd]; exact rfl) ?_) | (refine aw_reg (by decide +kernel) (by simp only [SZ, Nat.reduceAdd]; exact rfl) ?_) | (refine aw_regS (by decide +kernel) (by simp only [SZ, Nat.reduceAdd]; exact rfl) ?_) | (refine arl_nil ?_) | (refine aw_skip ?_) | (refine aw_block ?_) | (refine aw_exit ?_) | (refine aw_ret ?_) | (refine arl_cons rfl rfl (by simp +decide only [aop, abuiltin, aeval, aintBin, bin_int, aload_bump, SS, reduceIte, reduceCtorEq, fs1, l1', hla]; exact rfl) (by first | rfl | with_reducible assumption) rfl ?_) | (refine arl_none rfl rfl (by simp +decide only [aop, abuiltin, aeval, aintBin, bin_int, aload_bump, SS, reduceIte, reduceCtorEq, fs1, l1', hla]; exact rfl) rfl rfl ?_) | (refine arl_off rfl rfl ?_) | (refine aw_condT (by simp +decide only [aop, abuiltin, aeval, aintBin, bin_int, aload_bump, SS, reduceIte, reduceCtorEq, fs1, l1', hla]; first | done | exact rfl) ?_) | (refine aw_condF (by simp +decide only [aop, abuiltin, aeval, aintBin, bin_int, aload_bump, SS, reduceIte, reduceCtorEq, fs1, l1', hla]; first | done | exact rfl) ?_))
      refine arl_call rfl rfl rfl rfl rfl rfl ((piece_ok (by repeat (first | assumption | (refine WF.bump ?_ _))) (hAl.rd.up (by repeat (first | exact Keeps.refl _ _ | (refine Keeps.bumpR ?_ _)))) qb all.length (by omega) (by omega)).wf (by repeat (first | assumption | (refine WF.bump ?_ _) | (refine WF.put ?_ (by simp only [n_bump, n_put, n_touch, n_kill] at *; omega) (by simp only [n_bump, n_put, n_touch, n_kill] at *; omega)))) |>.mono ?_)
      rintro rv s11 ⟨hw11, hn11, hE11, hrvs, hRv⟩
      refine ⟨by first | rfl | with_reducible assumption, ?_⟩
      replace hE11 : Ext s10 s11 := Keeps.trans (by repeat (first | assumption | exact Keeps.refl _ _ | (refine Keeps.bumpR ?_ _) | (refine Keeps.put ?_ (by assumption) (by simp only [n_bump, n_put, n_touch, n_kill] at *; omega)))) hE11
      have hN11 := hE11.n
      rw [hpc] at hRv
      replace hRv := hRv.rd.lt hw11
      have hlr := hRv.len
      have hN10 := hE10.n
      have hN11 := hE11.n
      repeat (first | (refine aw_seq ?_) | (refine aw_reg0 (by simp only [SZ, Nat.reduceAdd]; exact rfl) ?_) | (refine aw_reg (by decide +kernel) (by simp only [SZ, Nat.reduceAdd]; exact rfl) ?_) | (refine aw_regS (by decide +kernel) (by simp only [SZ, Nat.reduceAdd]; exact rfl) ?_) | (refine arl_nil ?_) | (refine aw_skip ?_) | (refine aw_block ?_) | (refine aw_exit ?_) | (refine aw_ret ?_) | (refine arl_cons rfl rfl (by simp +decide only [aop, abuiltin, aeval, aintBin, bin_int, aload_bump, SS, reduceIte, reduceCtorEq]; exact rfl) (by first | rfl | with_reducible assumption) rfl ?_) | (refine arl_none rfl rfl (by simp +decide only [aop, abuiltin, aeval, aintBin, bin_int, aload_bump, SS, reduceIte, reduceCtorEq]; exact rfl) rfl rfl ?_) | (refine arl_off rfl rfl ?_) | (refine aw_condT (by simp +decide only [aop, abuiltin, aeval, aintBin, bin_int, aload_bump, SS, reduceIte, reduceCtorEq]; first | done | exact rfl) ?_) | (refine aw_condF (by simp +decide only [aop, abuiltin, aeval, aintBin, bin_int, aload_bump, SS, reduceIte, reduceCtorEq]; first | done | exact rfl) ?_))
      refine arl_call rfl rfl rfl rfl rfl rfl ((((number_ok (by repeat (first | assumption | (refine WF.bump ?_ _))) (hRv.up (by repeat (first | exact Keeps.refl _ _ | (refine Keeps.bumpR ?_ _)))) 0 4 (by omega) (by omega) (by omega) hbyR).mono (fun r s hq => by rw [if_pos (show 4 ≤ R.length - 0 by omega), List.drop_zero, show sval (R.take 4) = hd R from rfl] at hq; exact hq))).wf (by repeat (first | assumption | (refine WF.bump ?_ _) | (refine WF.put ?_ (by simp only [n_bump, n_put, n_touch, n_kill] at *; omega) (by simp only [n_bump, n_put, n_touch, n_kill] at *; omega)))) |>.mono ?_)
      rintro nr s12 ⟨hw12, hn12, hE12, rfl⟩
      refine ⟨by first | rfl | with_reducible assumption, ?_⟩
      replace hE12 : Ext s11 s12 := Keeps.trans (by repeat (first | assumption | exact Keeps.refl _ _ | (refine Keeps.bumpR ?_ _) | (refine Keeps.put ?_ (by assumption) (by simp only [n_bump, n_put, n_touch, n_kill] at *; omega)))) hE12
      have hN12 := hE12.n
      have hN12 := hE12.n
      obtain ⟨n, hn⟩ : ∃ n : Nat, hd R = (n : Int) := ⟨(hd R).toNat, by omega⟩
      rw [hn] at hp ⊢
      have hw1 : IntKind.i64.wrap ((R.length : Int) - 4) = (R.length : Int) - 4 := wrap64_of (by omega) (by omega)
      have hw2 : IntKind.i64.wrap ((n : Int) - ((R.length : Int) - 4)) = ((n + 4 - R.length : Nat) : Int) := by rw [wrap64_of (by omega) (by omega)]; omega
      obtain ⟨C, hC⟩ : ∃ C : Nat, n + 4 - R.length = C := ⟨_, rfl⟩
      rw [hC] at hw2
      repeat (first | (refine aw_seq ?_) | (refine aw_reg0 (by simp only [SZ, Nat.reduceAdd]; exact rfl) ?_) | (refine aw_reg (by decide +kernel) (by simp only [SZ, Nat.reduceAdd]; exact rfl) ?_) | (refine aw_regS (by decide +kernel) (by simp only [SZ, Nat.reduceAdd]; exact rfl) ?_) | (refine arl_nil ?_) | (refine aw_skip ?_) | (refine aw_block ?_) | (refine aw_exit ?_) | (refine aw_ret ?_) | (refine arl_cons rfl rfl (by simp +decide only [aop, abuiltin, aeval, aintBin, bin_int, aload_bump, SS, reduceIte, reduceCtorEq, lit0]; exact rfl) (by first | rfl | with_reducible assumption) rfl ?_) | (refine arl_none rfl rfl (by simp +decide only [aop, abuiltin, aeval, aintBin, bin_int, aload_bump, SS, reduceIte, reduceCtorEq, lit0]; exact rfl) rfl rfl ?_) | (refine arl_off rfl rfl ?_) | (refine aw_condT (by simp +decide only [aop, abuiltin, aeval, aintBin, bin_int, aload_bump, SS, reduceIte, reduceCtorEq, lit0]; first | done | exact rfl) ?_) | (refine aw_condF (by simp +decide only [aop, abuiltin, aeval, aintBin, bin_int, aload_bump, SS, reduceIte, reduceCtorEq, lit0]; first | done | exact rfl) ?_))
      refine AW.mono (AW.wf (aw_rounds_wf (fun m fr' s' => Ext s12 s' ∧ ∃ j : Nat, j ≤ C ∧ m = C - j ∧ fr' 5 = .ptr p 0 ∧ fr' 16 = rv ∧ fr' 17 = i64 n ∧ fr' 20 = i64 j ∧ OwB s' (fun g => s12.n ≤ g) (fr' 19) (mr j))
        (Q := fun e fr' s' => e = .exit 6 ∧ Ext s12 s' ∧ fr' 5 = .ptr p 0 ∧ fr' 16 = rv ∧ fr' 17 = i64 n ∧ OwB s' (fun g => s12.n ≤ g) (fr' 19) (mr C)) ?_ C _ _ (by repeat (first | assumption | (refine WF.bump ?_ _) | (refine WF.put ?_ (by simp only [n_bump, n_put, n_touch, n_kill] at *; omega) (by simp only [n_bump, n_put, n_touch, n_kill] at *; omega)))) ?_) (by repeat (first | assumption | (refine WF.bump ?_ _) | (refine WF.put ?_ (by simp only [n_bump, n_put, n_touch, n_kill] at *; omega) (by simp only [n_bump, n_put, n_touch, n_kill] at *; omega))))) ?_
      · rintro m fr' s' hws ⟨hE', j, hj, rfl, f5, f16, f17, f20, hm⟩
        have hEn' := hE'.n
        have hms := hm.solid
        by_cases hjl : j < C
        · have d3 : decide ((j : Int) < (C : Int)) = true := decide_eq_true (by omega)
          have hwk := wrap_succ (k := j) (by omega)
          repeat (first | (refine aw_seq ?_) | (refine aw_reg0 (by simp only [SZ, Nat.reduceAdd]; exact rfl) ?_) | (refine aw_reg (by decide +kernel) (by simp only [SZ, Nat.reduceAdd]; exact rfl) ?_) | (refine aw_regS (by decide +kernel) (by simp only [SZ, Nat.reduceAdd]; exact rfl) ?_) | (refine arl_nil ?_) | (refine aw_skip ?_) | (refine aw_block ?_) | (refine aw_exit ?_) | (refine aw_ret ?_) | (refine arl_cons rfl rfl (by simp +decide only [aop, abuiltin, aeval, aintBin, bin_int, aload_bump, SS, reduceIte, reduceCtorEq, f20, f17, f16, hlr, hw1, hw2, d3, conv_int Try.underlying3 Try.underlying5, lit1]; exact rfl) (by first | rfl | with_reducible assumption) rfl ?_) | (refine arl_none rfl rfl (by simp +decide only [aop, abuiltin, aeval, aintBin, bin_int, aload_bump, SS, reduceIte, reduceCtorEq, f20, f17, f16, hlr, hw1, hw2, d3, conv_int Try.underlying3 Try.underlying5, lit1]; exact rfl) rfl rfl ?_) | (refine arl_off rfl rfl ?_) | (refine aw_condT (by simp +decide only [aop, abuiltin, aeval, aintBin, bin_int, aload_bump, SS, reduceIte, reduceCtorEq, f20, f17, f16, hlr, hw1, hw2, d3, conv_int Try.underlying3 Try.underlying5, lit1]; first | done | exact rfl) ?_) | (refine aw_condF (by simp +decide only [aop, abuiltin, aeval, aintBin, bin_int, aload_bump, SS, reduceIte, reduceCtorEq, f20, f17, f16, hlr, hw1, hw2, d3, conv_int Try.underlying3 Try.underlying5, lit1]; first | done | exact rfl) ?_))
          refine arl_app (K := fun g => s12.n ≤ g) (K' := fun _ => True) (xs := mr j) (ns := [IntKind.u8.wrap (j : Int)]) rfl rfl rfl (hm.keep (G := fun _ => False) (by repeat (first | assumption | exact Keeps.refl _ _ | (refine Keeps.bumpR ?_ _) | (refine Keeps.put ?_ (by assumption) (by simp only [n_bump, n_put, n_touch, n_kill] at *; omega)))) (fun _ _ h => h)) (RdB.lit _ _ _ [_]) (by simp only [n_bump]; omega) (by rw [mr_len, List.length_singleton]; omega) ?_
          intro y s2 hO2 hn2 hK2
          have hys := hO2.solid
          have hE2 : Ext s12 s2 := hK2 _ s12 hw12 (by repeat (first | assumption | exact Keeps.refl _ _ | (refine Keeps.bumpR ?_ _) | (refine Keeps.put ?_ (by assumption) (by simp only [n_bump, n_put, n_touch, n_kill] at *; omega)))) (by simp only [n_bump, n_put, n_touch, n_kill] at *; omega) (fun g hg => .inr hg)
          repeat (first | (refine aw_seq ?_) | (refine aw_reg0 (by simp only [SZ, Nat.reduceAdd]; exact rfl) ?_) | (refine aw_reg (by decide +kernel) (by simp only [SZ, Nat.reduceAdd]; exact rfl) ?_) | (refine aw_regS (by decide +kernel) (by simp only [SZ, Nat.reduceAdd]; exact rfl) ?_) | (refine arl_nil ?_) | (refine aw_skip ?_) | (refine aw_block ?_) | (refine aw_exit ?_) | (refine aw_ret ?_) | (refine arl_cons rfl rfl (by simp +decide only [aop, abuiltin, aeval, aintBin, bin_int, aload_bump, SS, reduceIte, reduceCtorEq, f20, hwk]; exact rfl) (by first | rfl | with_reducible assumption) rfl ?_) | (refine arl_none rfl rfl (by simp +decide only [aop, abuiltin, aeval, aintBin, bin_int, aload_bump, SS, reduceIte, reduceCtorEq, f20, hwk]; exact rfl) rfl rfl ?_) | (refine arl_off rfl rfl ?_) | (refine aw_condT (by simp +decide only [aop, abuiltin, aeval, aintBin, bin_int, aload_bump, SS, reduceIte, reduceCtorEq, f20, hwk]; first | done | exact rfl) ?_) | (refine aw_condF (by simp +decide only [aop, abuiltin, aeval, aintBin, bin_int, aload_bump, SS, reduceIte, reduceCtorEq, f20, hwk]; first | done | exact rfl) ?_))
          refine ⟨C - (j + 1), by omega, hE2.trans (by repeat (first | exact Keeps.refl _ _ | (refine Keeps.bumpR ?_ _))), j + 1, by omega, rfl, f5, f16, f17, rfl, ?_⟩
          rw [mr_succ]
          exact hO2.up (by repeat (first | exact Keeps.refl _ _ | (refine Keeps.bumpR ?_ _)))
        · have d3 : decide ((j : Int) < (C : Int)) = false := decide_eq_false (by omega)
          obtain rfl : j = C := by omega
          repeat (first | (refine aw_seq ?_) | (refine aw_reg0 (by simp only [SZ, Nat.reduceAdd]; exact rfl) ?_) | (refine aw_reg (by decide +kernel) (by simp only [SZ, Nat.reduceAdd]; exact rfl) ?_) | (refine aw_regS (by decide +kernel) (by simp only [SZ, Nat.reduceAdd]; exact rfl) ?_) | (refine arl_nil ?_) | (refine aw_skip ?_) | (refine aw_block ?_) | (refine aw_exit ?_) | (refine aw_ret ?_) | (refine arl_cons rfl rfl (by simp +decide only [aop, abuiltin, aeval, aintBin, bin_int, aload_bump, SS, reduceIte, reduceCtorEq, f20, f17, f16, hlr, hw1, hw2, d3]; exact rfl) (by first | rfl | with_reducible assumption) rfl ?_) | (refine arl_none rfl rfl (by simp +decide only [aop, abuiltin, aeval, aintBin, bin_int, aload_bump, SS, reduceIte, reduceCtorEq, f20, f17, f16, hlr, hw1, hw2, d3]; exact rfl) rfl rfl ?_) | (refine arl_off rfl rfl ?_) | (refine aw_condT (by simp +decide only [aop, abuiltin, aeval, aintBin, bin_int, aload_bump, SS, reduceIte, reduceCtorEq, f20, f17, f16, hlr, hw1, hw2, d3]; first | done | exact rfl) ?_) | (refine aw_condF (by simp +decide only [aop, abuiltin, aeval, aintBin, bin_int, aload_bump, SS, reduceIte, reduceCtorEq, f20, f17, f16, hlr, hw1, hw2, d3]; first | done | exact rfl) ?_))
          exact ⟨rfl, hE'.trans (by repeat (first | exact Keeps.refl _ _ | (refine Keeps.bumpR ?_ _))), f5, f16, f17, hm.up (by repeat (first | exact Keeps.refl _ _ | (refine Keeps.bumpR ?_ _)))⟩
      · exact ⟨(by repeat (first | assumption | exact Keeps.refl _ _ | (refine Keeps.bumpR ?_ _) | (refine Keeps.put ?_ (by assumption) (by simp only [n_bump, n_put, n_touch, n_kill] at *; omega)))), 0, by omega, rfl, f5, rfl, rfl, rfl, .inr ⟨_, _, rfl, get_put _ _, by simp only [n_bump]; omega⟩⟩
      rintro e fr2 s13 ⟨hw13, hn13, rfl, hE13, f5, f16, f17, hm⟩
      have hN13 := hE13.n
      obtain ⟨mv, f19⟩ : ∃ x, fr2 19 = x := ⟨_, rfl⟩
      rw [f19] at hm
      have hms := hm.solid
      have hT913 : Ext s9 s13 := ((hE10.trans hE11).trans hE12).trans hE13
      have hall2 : ∀ x ∈ all ++ mr C, 0 ≤ x ∧ x < 256 := fun x hx => by
        rcases List.mem_append.1 hx with hx | hx
        · exact hby' x hx
        · exact mr_by C x hx
      repeat (first | (refine aw_seq ?_) | (refine aw_reg0 (by simp only [SZ, Nat.reduceAdd]; exact rfl) ?_) | (refine aw_reg (by decide +kernel) (by simp only [SZ, Nat.reduceAdd]; exact rfl) ?_) | (refine aw_regS (by decide +kernel) (by simp only [SZ, Nat.reduceAdd]; exact rfl) ?_) | (refine arl_nil ?_) | (refine aw_skip ?_) | (refine aw_block ?_) | (refine aw_exit ?_) | (refine aw_ret ?_) | (refine arl_cons rfl rfl (by simp +decide only [aop, abuiltin, aeval, aintBin, bin_int, aload_bump, SS, reduceIte, reduceCtorEq, f5, f19]; exact rfl) (by first | rfl | with_reducible assumption) rfl ?_) | (refine arl_none rfl rfl (by simp +decide only [aop, abuiltin, aeval, aintBin, bin_int, aload_bump, SS, reduceIte, reduceCtorEq, f5, f19]; exact rfl) rfl rfl ?_) | (refine arl_off rfl rfl ?_) | (refine aw_condT (by simp +decide only [aop, abuiltin, aeval, aintBin, bin_int, aload_bump, SS, reduceIte, reduceCtorEq, f5, f19]; first | done | exact rfl) ?_) | (refine aw_condF (by simp +decide only [aop, abuiltin, aeval, aintBin, bin_int, aload_bump, SS, reduceIte, reduceCtorEq, f5, f19]; first | done | exact rfl) ?_))
      refine arl_call rfl rfl rfl rfl rfl rfl ((fed_ok (by repeat (first | assumption | (refine WF.bump ?_ _))) ((hF9.up hT913).up (by repeat (first | exact Keeps.refl _ _ | (refine Keeps.bumpR ?_ _)))) hM.2 ((hm.rd).up (by repeat (first | exact Keeps.refl _ _ | (refine Keeps.bumpR ?_ _)))) (fun g hg => ⟨fun h => by have := hKH g h; omega, fun h => by have := hKB g h; omega, by omega⟩) hall2 (by rw [mr_len]; omega)).wf (by repeat (first | assumption | (refine WF.bump ?_ _) | (refine WF.put ?_ (by simp only [n_bump, n_put, n_touch, n_kill] at *; omega) (by simp only [n_bump, n_put, n_touch, n_kill] at *; omega)))) |>.mono ?_)
      rintro res s14 ⟨hw14, hn14, hE14, xl, KX, KH2, KB2, L2, fs, rfl, hxls, hX, hG2, hfs, -, -⟩
      refine ⟨rfl, ?_⟩
      have hh : hd (R ++ mr C) = (n : Int) := by rw [hd_app _ (by omega), hn]
      have hlR : (R ++ mr C).length = 4 + n := by rw [List.length_append, mr_len]; omega
      have hcf := cut_frame (M := bndF most) (r := R ++ mr C) (c := []) (by omega) (by omega) (by omega) (by omega)
      rw [List.append_nil, cutS_nil] at hcf
      have happ2 := happ (mr C)
      rw [hQ, if_pos hz, hR, hcf] at happ2
      rw [happ2, hQ] at hfs
      have hfs1 : fs = [(R ++ mr C).drop 4] := by
        simp only at hfs
        exact (List.append_cancel_left hfs).symm
      subst hfs1
      rw [happ2]
      simp only
      replace hE14 : Keeps (fun g => g = p ∨ KH g ∨ KB g) s13 s14 := Keeps.trans (Keeps.mono (G := fun _ => False) (show Ext s13 _ from (by repeat (first | exact Keeps.refl _ _ | (refine Keeps.bumpR ?_ _)))) (fun _ h => h.elim)) hE14
      have hN14 := hE14.n
      have hav : ∀ {g}, s9.n ≤ g → ¬ (g = p ∨ KH g ∨ KB g) := fun hg h => by rcases h with h | h | h; omega; have := hKH _ h; omega; have := hKB _ h; omega
      have hm14 := hm.rd.keep hE14 (fun g hg => hav (by omega))
      have hR14 := ((hRv.up hE12).up hE13).keep hE14 (fun g hg => hav (by have := hg.1; simp only [n_bump] at this; omega))
      have hlx := RdE.len hX.rd TRo
      obtain ⟨q, c, a1, a2, a3, a4, a5⟩ := row_at (oRow_rd hX).rd .i64 0 (by simp)
      replace hlx : alen Try.prog #[22] [xl] = some (i64 1) := hlx
      replace a1 : aindexAddr Try.prog 22 xl (i64 0) = some q := a1
      have hwn : IntKind.i64.wrap (4 + (n : Int)) = ((4 + n : Nat) : Int) := by rw [wrap64_of (by omega) (by omega)]; omega
      repeat (first | (refine aw_seq ?_) | (refine aw_reg0 (by simp only [SZ, Nat.reduceAdd]; exact rfl) ?_) | (refine aw_reg (by decide +kernel) (by simp only [SZ, Nat.reduceAdd]; exact rfl) ?_) | (refine aw_regS (by decide +kernel) (by simp only [SZ, Nat.reduceAdd]; exact rfl) ?_) | (refine arl_nil ?_) | (refine aw_skip ?_) | (refine aw_block ?_) | (refine aw_exit ?_) | (refine aw_ret ?_) | (refine arl_cons rfl rfl (by simp +decide only [aop, abuiltin, aeval, aintBin, bin_int, aload_bump, SS, reduceIte, reduceCtorEq, hlx, a1, a3, f16, f19]; exact rfl) (by first | rfl | with_reducible assumption) rfl ?_) | (refine arl_none rfl rfl (by simp +decide only [aop, abuiltin, aeval, aintBin, bin_int, aload_bump, SS, reduceIte, reduceCtorEq, hlx, a1, a3, f16, f19]; exact rfl) rfl rfl ?_) | (refine arl_off rfl rfl ?_) | (refine aw_condT (by simp +decide only [aop, abuiltin, aeval, aintBin, bin_int, aload_bump, SS, reduceIte, reduceCtorEq, hlx, a1, a3, f16, f19]; first | done | exact rfl) ?_) | (refine aw_condF (by simp +decide only [aop, abuiltin, aeval, aintBin, bin_int, aload_bump, SS, reduceIte, reduceCtorEq, hlx, a1, a3, f16, f19]; first | done | exact rfl) ?_))
      refine arl_callS rfl rfl rfl rfl rfl rfl ((cat_ok (by repeat (first | assumption | (refine WF.bump ?_ _))) (hR14.up (by repeat (first | exact Keeps.refl _ _ | (refine Keeps.bumpR ?_ _)))) (hm14.up (by repeat (first | exact Keeps.refl _ _ | (refine Keeps.bumpR ?_ _)))) (by rw [mr_len]; omega)).wf (by repeat (first | assumption | (refine WF.bump ?_ _) | (refine WF.put ?_ (by simp only [n_bump, n_put, n_touch, n_kill] at *; omega) (by simp only [n_bump, n_put, n_touch, n_kill] at *; omega)))) |>.mono ?_)
      rintro cv s15 ⟨hw15, hn15, hE15, hcvs, hCv⟩
      refine ⟨hE15, by first | rfl | with_reducible assumption, ?_⟩
      replace hE15 : Ext s14 s15 := Keeps.trans (by repeat (first | assumption | exact Keeps.refl _ _ | (refine Keeps.bumpR ?_ _) | (refine Keeps.put ?_ (by assumption) (by simp only [n_bump, n_put, n_touch, n_kill] at *; omega)))) hE15
      have hN15 := hE15.n
      repeat (first | (refine aw_seq ?_) | (refine aw_reg0 (by simp only [SZ, Nat.reduceAdd]; exact rfl) ?_) | (refine aw_reg (by decide +kernel) (by simp only [SZ, Nat.reduceAdd]; exact rfl) ?_) | (refine aw_regS (by decide +kernel) (by simp only [SZ, Nat.reduceAdd]; exact rfl) ?_) | (refine arl_nil ?_) | (refine aw_skip ?_) | (refine aw_block ?_) | (refine aw_exit ?_) | (refine aw_ret ?_) | (refine arl_cons rfl rfl (by simp +decide only [aop, abuiltin, aeval, aintBin, bin_int, aload_bump, SS, reduceIte, reduceCtorEq, f17, hwn]; exact rfl) (by first | rfl | with_reducible assumption) rfl ?_) | (refine arl_none rfl rfl (by simp +decide only [aop, abuiltin, aeval, aintBin, bin_int, aload_bump, SS, reduceIte, reduceCtorEq, f17, hwn]; exact rfl) rfl rfl ?_) | (refine arl_off rfl rfl ?_) | (refine aw_condT (by simp +decide only [aop, abuiltin, aeval, aintBin, bin_int, aload_bump, SS, reduceIte, reduceCtorEq, f17, hwn]; first | done | exact rfl) ?_) | (refine aw_condF (by simp +decide only [aop, abuiltin, aeval, aintBin, bin_int, aload_bump, SS, reduceIte, reduceCtorEq, f17, hwn]; first | done | exact rfl) ?_))
      refine arl_callS rfl rfl rfl rfl rfl rfl ((piece_ok (by repeat (first | assumption | (refine WF.bump ?_ _))) (hCv.rd.up (by repeat (first | exact Keeps.refl _ _ | (refine Keeps.bumpR ?_ _)))) 4 ((4 + n : Nat) : Int) (by omega) (by omega)).wf (by repeat (first | assumption | (refine WF.bump ?_ _) | (refine WF.put ?_ (by simp only [n_bump, n_put, n_touch, n_kill] at *; omega) (by simp only [n_bump, n_put, n_touch, n_kill] at *; omega)))) |>.mono ?_)
      rintro pv s16 ⟨hw16, hn16, hE16, hpvs, hPv⟩
      refine ⟨hE16, by first | rfl | with_reducible assumption, ?_⟩
      replace hE16 : Ext s15 s16 := Keeps.trans (by repeat (first | assumption | exact Keeps.refl _ _ | (refine Keeps.bumpR ?_ _) | (refine Keeps.put ?_ (by assumption) (by simp only [n_bump, n_put, n_touch, n_kill] at *; omega)))) hE16
      have hN16 := hE16.n
      have hpe : ((R ++ mr C).drop (4 : Int).toNat).take (((4 + n : Nat) : Int).toNat - (4 : Int).toNat) = (R ++ mr C).drop 4 := by
        rw [show (4 : Int).toNat = 4 from rfl, Int.toNat_natCast, List.take_of_length_le (by rw [List.length_drop]; omega)]
      rw [hpe] at hPv
      repeat (first | (refine aw_seq ?_) | (refine aw_reg0 (by simp only [SZ, Nat.reduceAdd]; exact rfl) ?_) | (refine aw_reg (by decide +kernel) (by simp only [SZ, Nat.reduceAdd]; exact rfl) ?_) | (refine aw_regS (by decide +kernel) (by simp only [SZ, Nat.reduceAdd]; exact rfl) ?_) | (refine arl_nil ?_) | (refine aw_skip ?_) | (refine aw_block ?_) | (refine aw_exit ?_) | (refine aw_ret ?_) | (refine arl_cons rfl rfl (by simp +decide only [aop, abuiltin, aeval, aintBin, bin_int, aload_bump, SS, reduceIte, reduceCtorEq]; exact rfl) (by first | rfl | with_reducible assumption) rfl ?_) | (refine arl_none rfl rfl (by simp +decide only [aop, abuiltin, aeval, aintBin, bin_int, aload_bump, SS, reduceIte, reduceCtorEq]; exact rfl) rfl rfl ?_) | (refine arl_off rfl rfl ?_) | (refine aw_condT (by simp +decide only [aop, abuiltin, aeval, aintBin, bin_int, aload_bump, SS, reduceIte, reduceCtorEq]; first | done | exact rfl) ?_) | (refine aw_condF (by simp +decide only [aop, abuiltin, aeval, aintBin, bin_int, aload_bump, SS, reduceIte, reduceCtorEq]; first | done | exact rfl) ?_))
      refine arl_callS rfl rfl rfl rfl rfl rfl ((same_self (by repeat (first | assumption | (refine WF.bump ?_ _))) (((a5.up hE15).up hE16).up (by repeat (first | exact Keeps.refl _ _ | (refine Keeps.bumpR ?_ _)))) (hPv.rd.up (by repeat (first | exact Keeps.refl _ _ | (refine Keeps.bumpR ?_ _)))) (by simp only [List.getElem_cons_zero, List.length_drop]; omega)).wf (by repeat (first | assumption | (refine WF.bump ?_ _) | (refine WF.put ?_ (by simp only [n_bump, n_put, n_touch, n_kill] at *; omega) (by simp only [n_bump, n_put, n_touch, n_kill] at *; omega)))) |>.mono ?_)
      rintro r s17 ⟨hw17, hn17, hE17, rfl⟩
      refine ⟨hE17, by first | rfl | with_reducible assumption, ?_⟩
      replace hE17 : Ext s16 s17 := Keeps.trans (by repeat (first | assumption | exact Keeps.refl _ _ | (refine Keeps.bumpR ?_ _) | (refine Keeps.put ?_ (by assumption) (by simp only [n_bump, n_put, n_touch, n_kill] at *; omega)))) hE17
      have hN17 := hE17.n
      repeat (first | (refine aw_seq ?_) | (refine aw_reg0 (by simp only [SZ, Nat.reduceAdd]; exact rfl) ?_) | (refine aw_reg (by decide +kernel) (by simp only [SZ, Nat.reduceAdd]; exact rfl) ?_) | (refine aw_regS (by decide +kernel) (by simp only [SZ, Nat.reduceAdd]; exact rfl) ?_) | (refine arl_nil ?_) | (refine aw_skip ?_) | (refine aw_block ?_) | (refine aw_exit ?_) | (refine aw_ret ?_) | (refine arl_cons rfl rfl (by simp +decide only [aop, abuiltin, aeval, aintBin, bin_int, aload_bump, SS, reduceIte, reduceCtorEq]; exact rfl) (by first | rfl | with_reducible assumption) rfl ?_) | (refine arl_none rfl rfl (by simp +decide only [aop, abuiltin, aeval, aintBin, bin_int, aload_bump, SS, reduceIte, reduceCtorEq]; exact rfl) rfl rfl ?_) | (refine arl_off rfl rfl ?_) | (refine aw_condT (by simp +decide only [aop, abuiltin, aeval, aintBin, bin_int, aload_bump, SS, reduceIte, reduceCtorEq]; first | done | exact rfl) ?_) | (refine aw_condF (by simp +decide only [aop, abuiltin, aeval, aintBin, bin_int, aload_bump, SS, reduceIte, reduceCtorEq]; first | done | exact rfl) ?_))
      exact ⟨.inr rfl, _, rfl, rfl⟩
  · have e1 : (qd != 0) = true := by rw [hqd]; simp [hz]
    repeat (first | (refine aw_seq ?_) | (refine aw_reg0 (by simp only [SZ, Nat.reduceAdd]; exact rfl) ?_) | (refine aw_reg (by decide +kernel) (by simp only [SZ, Nat.reduceAdd]; exact rfl) ?_) | (refine aw_regS (by decide +kernel) (by simp only [SZ, Nat.reduceAdd]; exact rfl) ?_) | (refine arl_nil ?_) | (refine aw_skip ?_) | (refine aw_block ?_) | (refine aw_exit ?_) | (refine aw_ret ?_) | (refine arl_cons rfl rfl (by simp +decide only [aop, abuiltin, aeval, aintBin, bin_int, aload_bump, SS, reduceIte, reduceCtorEq, fs3, l3, e1]; exact rfl) (by first | rfl | with_reducible assumption) rfl ?_) | (refine arl_none rfl rfl (by simp +decide only [aop, abuiltin, aeval, aintBin, bin_int, aload_bump, SS, reduceIte, reduceCtorEq, fs3, l3, e1]; exact rfl) rfl rfl ?_) | (refine arl_off rfl rfl ?_) | (refine aw_condT (by simp +decide only [aop, abuiltin, aeval, aintBin, bin_int, aload_bump, SS, reduceIte, reduceCtorEq, fs3, l3, e1]; first | done | exact rfl) ?_) | (refine aw_condF (by simp +decide only [aop, abuiltin, aeval, aintBin, bin_int, aload_bump, SS, reduceIte, reduceCtorEq, fs3, l3, e1]; first | done | exact rfl) ?_))
    exact ⟨.inr rfl, _, rfl, rfl⟩
theorem FrameMemory_small {st : St} (hw : WF st) (most : Int) (gm : (Lit.int .i64 most).wf = true) {v : AV} {ps : List (List Int)} (h : RdL st (fun _ => True) 1 (fun cs xs => ∃ v, cs = [v] ∧ RdL st (fun _ => True) 1 (fun cs n => cs = [.pl (.int .u8 n)]) v xs) v ps)
    (good : ∀ x ∈ ps, ∀ y ∈ x, (Lit.int .u8 y).wf = true) (hb : 1 + ((ps.map fun xs : List Int => (xs.map fun _ => 1).sum + 1).sum + 1) ≤ 1048576) : ACalls Try.prog 6 [i64 most, v] st (fun r s => r = .pl (.bool true)) := by
  rw [sum_flat] at hb
  exact memory_ok hw most (rows_of h) (by omega) (fun p hp x hx => wfu8 (good p hp x hx))
end Go.Proofs.Ytoccmjhgmoandaa.Ra
