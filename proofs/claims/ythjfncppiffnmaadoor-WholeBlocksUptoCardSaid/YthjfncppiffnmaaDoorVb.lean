/- vint: Zig, Zag, PutAll, Put; leatref02: Zig, Zag, Put, PutAll. -/
import Derived.Test.YthjfncppiffnmaaDoorVa
import Derived.Test.YthjfncppiffnmaaDoorSe
import Derived.Test.YthjfncppiffnmaaDoorRw
namespace Go.Proofs.YthjfncppiffnmaaDoor.Ra
open Go Go.RowKit Vn
set_option linter.unusedVariables false
set_option linter.unusedSimpArgs false
set_option maxRecDepth 10000
abbrev u64 (n : Int) : AV := .pl (.int .u64 n)
theorem shr_int (P : Program) (t : TypeId) (k k' : IntKind) (a b : Int) : abin P .shr t (.pl (.int k a)) (.pl (.int k' b)) = aintBin .shr k a b := by simp [abin]
theorem shl_int (P : Program) (t : TypeId) (k k' : IntKind) (a b : Int) : abin P .shl t (.pl (.int k a)) (.pl (.int k' b)) = aintBin .shl k a b := by simp [abin]
theorem wr64 {x : Int} (h0 : 0 ≤ x) (h1 : x ≤ 18446744073709551615) : IntKind.u64.wrap x = x := by rw [wrU64]; omega
theorem vZig_ok {st : St} (hw : WF st) {v : Int} (hv : fit v) : ACalls Tryd.prog 31 [i64 v] st (fun r s => Ext st s ∧ r = u64 (zig v)) := by
  refine acalls_of Tryd.func31 rfl (by kernel_rfl) rfl ?_
  repeat (first | (refine aw_seq ?_) | (refine aw_reg0 (by simp only [SZ, Nat.reduceAdd]; exact rfl) ?_) | (refine aw_reg (by decide +kernel) (by simp only [SZ, Nat.reduceAdd]; exact rfl) ?_) | (refine aw_regS (by decide +kernel) (by simp only [SZ, Nat.reduceAdd]; exact rfl) ?_) | (refine arl_nil ?_) | (refine aw_skip ?_) | (refine aw_block ?_) | (refine aw_exit ?_) | (refine aw_ret ?_) | (refine arl_cons rfl rfl (by simp +decide only [aop, abuiltin, aeval, aintBin, bin_int, aload_bump, SS, reduceIte, reduceCtorEq, shr_int, conv_int Tryd.underlying2 Tryd.underlying45]; exact rfl) (by first | rfl | with_reducible assumption) rfl ?_) | (refine arl_none rfl rfl (by simp +decide only [aop, abuiltin, aeval, aintBin, bin_int, aload_bump, SS, reduceIte, reduceCtorEq, shr_int, conv_int Tryd.underlying2 Tryd.underlying45]; exact rfl) rfl rfl ?_) | (refine arl_off rfl rfl ?_) | (refine aw_condT (by simp +decide only [aop, abuiltin, aeval, aintBin, bin_int, aload_bump, SS, reduceIte, reduceCtorEq, shr_int, conv_int Tryd.underlying2 Tryd.underlying45]; first | done | exact rfl) ?_) | (refine aw_condF (by simp +decide only [aop, abuiltin, aeval, aintBin, bin_int, aload_bump, SS, reduceIte, reduceCtorEq, shr_int, conv_int Tryd.underlying2 Tryd.underlying45]; first | done | exact rfl) ?_))
  refine ⟨.inr rfl, _, rfl, (by repeat (first | exact Keeps.refl _ _ | (refine Keeps.bumpR ?_ _))), ?_⟩
  show AV.pl _ = _
  rw [← zig_val hv.1 hv.2]
theorem vZag_ok {st : St} (hw : WF st) {u : Int} (h0 : 0 ≤ u) (h1 : u ≤ 18446744073709551615) : ACalls Tryd.prog 18 [u64 u] st (fun r s => Ext st s ∧ r = i64 (zag u)) := by
  refine acalls_of Tryd.func18 rfl (by kernel_rfl) rfl ?_
  repeat (first | (refine aw_seq ?_) | (refine aw_reg0 (by simp only [SZ, Nat.reduceAdd]; exact rfl) ?_) | (refine aw_reg (by decide +kernel) (by simp only [SZ, Nat.reduceAdd]; exact rfl) ?_) | (refine aw_regS (by decide +kernel) (by simp only [SZ, Nat.reduceAdd]; exact rfl) ?_) | (refine arl_nil ?_) | (refine aw_skip ?_) | (refine aw_block ?_) | (refine aw_exit ?_) | (refine aw_ret ?_) | (refine arl_cons rfl rfl (by simp +decide only [aop, abuiltin, aeval, aintBin, bin_int, aload_bump, SS, reduceIte, reduceCtorEq, shr_int, conv_int Tryd.underlying45 Tryd.underlying2]; exact rfl) (by first | rfl | with_reducible assumption) rfl ?_) | (refine arl_none rfl rfl (by simp +decide only [aop, abuiltin, aeval, aintBin, bin_int, aload_bump, SS, reduceIte, reduceCtorEq, shr_int, conv_int Tryd.underlying45 Tryd.underlying2]; exact rfl) rfl rfl ?_) | (refine arl_off rfl rfl ?_) | (refine aw_condT (by simp +decide only [aop, abuiltin, aeval, aintBin, bin_int, aload_bump, SS, reduceIte, reduceCtorEq, shr_int, conv_int Tryd.underlying45 Tryd.underlying2]; first | done | exact rfl) ?_) | (refine aw_condF (by simp +decide only [aop, abuiltin, aeval, aintBin, bin_int, aload_bump, SS, reduceIte, reduceCtorEq, shr_int, conv_int Tryd.underlying45 Tryd.underlying2]; first | done | exact rfl) ?_))
  refine ⟨.inr rfl, _, rfl, (by repeat (first | exact Keeps.refl _ _ | (refine Keeps.bumpR ?_ _))), ?_⟩
  show AV.pl _ = _
  rw [← zag_val h0 h1]
/-- A number. -/
def numK : EK Int where
  s := 1
  R := fun st K cs n => cs = [i64 n]
  keep := fun _ _ c x h => h
  mono := fun _ c x h => h
  lt := fun _ c x h => h
  one := fun c x h => by subst h; rfl
  len := fun c x h => by subst h; rfl
theorem TI : TF Tryd.prog 66 2 numK.s 8 := TF.of (by kernel_rfl) (by kernel_rfl) (by decide)
theorem litI0 (id : Nat) : abuildSlice Tryd.prog 66 id 0 [] = some (.sl id 0 0 1, ⟨[], 2, true, id⟩) := lit_none TI id
theorem litI1 (id : Nat) (n : Int) : abuildSlice Tryd.prog 66 id 1 [(0, i64 n)] = some (.sl id 0 1 1, ⟨[i64 n], 2, true, id⟩) := lit_one TI id (i64 n) rfl rfl (by decide)
theorem num_at {st : St} {K : Nat → Prop} {v : AV} {xs : List Int} (h : RdE numK st K v xs) (j : Nat) (hj : j < xs.length) :
    ∃ p, aindexAddr Tryd.prog 66 v (i64 j) = some p ∧ p.solid = true ∧ aload Tryd.prog st 2 p = some (i64 xs[j]) := by
  obtain ⟨p, c, h1, h2, h3, h4⟩ := h.load1 rfl TI Tryd.underlying2 rfl .i64 j hj
  have h5 : [c] = [i64 xs[j]] := h4
  cases h5
  exact ⟨p, h1, h2, h3⟩
set_option maxHeartbeats 1000000 in
theorem vPutAll_ok {st : St} (hw : WF st) {K : Nat → Prop} {v : AV} {vs : List Int} (h : RdE numK st K v vs) (hl : vs.length ≤ 1048576) (hv : ∀ x ∈ vs, fit x) :
    ACalls Tryd.prog 26 [v] st (fun r s => Ext st s ∧ r.solid = true ∧ OwB s (fun g => st.n ≤ g) r (vputAll vs)) := by
  replace h := h.lt hw
  have hvs := h.solid
  have hln := h.len TI
  refine acalls_of Tryd.func26 rfl (by kernel_rfl) (by simp [hvs]) ?_
  repeat (first | (refine aw_seq ?_) | (refine aw_reg0 (by simp only [SZ, Nat.reduceAdd]; exact rfl) ?_) | (refine aw_reg (by decide +kernel) (by simp only [SZ, Nat.reduceAdd]; exact rfl) ?_) | (refine aw_regS (by decide +kernel) (by simp only [SZ, Nat.reduceAdd]; exact rfl) ?_) | (refine arl_nil ?_) | (refine aw_skip ?_) | (refine aw_block ?_) | (refine aw_exit ?_) | (refine aw_ret ?_) | (refine arl_cons rfl rfl (by simp +decide only [aop, abuiltin, aeval, aintBin, bin_int, aload_bump, SS, reduceIte, reduceCtorEq, lit0, hln]; exact rfl) (by first | rfl | with_reducible assumption) rfl ?_) | (refine arl_none rfl rfl (by simp +decide only [aop, abuiltin, aeval, aintBin, bin_int, aload_bump, SS, reduceIte, reduceCtorEq, lit0, hln]; exact rfl) rfl rfl ?_) | (refine arl_off rfl rfl ?_) | (refine aw_condT (by simp +decide only [aop, abuiltin, aeval, aintBin, bin_int, aload_bump, SS, reduceIte, reduceCtorEq, lit0, hln]; first | done | exact rfl) ?_) | (refine aw_condF (by simp +decide only [aop, abuiltin, aeval, aintBin, bin_int, aload_bump, SS, reduceIte, reduceCtorEq, lit0, hln]; first | done | exact rfl) ?_))
  refine aw_rounds_wf (fun m fr s => Ext st s ∧ ∃ k : Nat, k ≤ vs.length ∧ m = vs.length - k ∧ fr 8 = v ∧ fr 9 = i64 vs.length ∧ fr 10 = i64 k ∧ OwB s (fun g => st.n ≤ g) (fr 3) (vputAll (vs.take k))) ?_ vs.length _ _ (by repeat (first | assumption | (refine WF.bump ?_ _) | (refine WF.put ?_ (by simp only [n_bump, n_put, n_touch, n_kill] at *; omega) (by simp only [n_bump, n_put, n_touch, n_kill] at *; omega)))) ?_
  · rintro m fr sx hws ⟨hE, k, hk, rfl, f8, f9, f10, hO⟩
    have hEn := hE.n
    have hos := hO.solid
    by_cases hlt : k < vs.length
    · have hd : decide ((k : Int) < (vs.length : Int)) = true := decide_eq_true (by omega)
      obtain ⟨p, hp1, hp2, hp3⟩ := num_at (h.up hE) k hlt
      have hfv := hv _ (List.getElem_mem hlt)
      have hzr := zig_range hfv.1 hfv.2
      have hwk := wrap_succ (k := k) (by omega)
      have hpl : (vputAll (vs.take k)).length ≤ 10 * k := by
        have := (vputAll_len (vs := vs.take k) (fun w hw => hv w (List.mem_of_mem_take hw))).2
        rw [List.length_take] at this
        omega
      repeat (first | (refine aw_seq ?_) | (refine aw_reg0 (by simp only [SZ, Nat.reduceAdd]; exact rfl) ?_) | (refine aw_reg (by decide +kernel) (by simp only [SZ, Nat.reduceAdd]; exact rfl) ?_) | (refine aw_regS (by decide +kernel) (by simp only [SZ, Nat.reduceAdd]; exact rfl) ?_) | (refine arl_nil ?_) | (refine aw_skip ?_) | (refine aw_block ?_) | (refine aw_exit ?_) | (refine aw_ret ?_) | (refine arl_cons rfl rfl (by simp +decide only [aop, abuiltin, aeval, aintBin, bin_int, aload_bump, SS, reduceIte, reduceCtorEq, f9, f10, hd, f8, hp1, hp3]; exact rfl) (by first | rfl | with_reducible assumption) rfl ?_) | (refine arl_none rfl rfl (by simp +decide only [aop, abuiltin, aeval, aintBin, bin_int, aload_bump, SS, reduceIte, reduceCtorEq, f9, f10, hd, f8, hp1, hp3]; exact rfl) rfl rfl ?_) | (refine arl_off rfl rfl ?_) | (refine aw_condT (by simp +decide only [aop, abuiltin, aeval, aintBin, bin_int, aload_bump, SS, reduceIte, reduceCtorEq, f9, f10, hd, f8, hp1, hp3]; first | done | exact rfl) ?_) | (refine aw_condF (by simp +decide only [aop, abuiltin, aeval, aintBin, bin_int, aload_bump, SS, reduceIte, reduceCtorEq, f9, f10, hd, f8, hp1, hp3]; first | done | exact rfl) ?_))
      refine arl_call rfl rfl rfl rfl rfl rfl ((vZig_ok (by repeat (first | assumption | (refine WF.bump ?_ _))) hfv).wf (by repeat (first | assumption | (refine WF.bump ?_ _) | (refine WF.put ?_ (by simp only [n_bump, n_put, n_touch, n_kill] at *; omega) (by simp only [n_bump, n_put, n_touch, n_kill] at *; omega)))) |>.mono ?_)
      rintro r s1 ⟨hw1, hn1, hE1, rfl⟩
      refine ⟨by first | rfl | with_reducible assumption, ?_⟩
      replace hE1 : Ext sx s1 := Keeps.trans (by repeat (first | assumption | exact Keeps.refl _ _ | (refine Keeps.bumpR ?_ _) | (refine Keeps.put ?_ (by assumption) (by simp only [n_bump, n_put, n_touch, n_kill] at *; omega)))) hE1
      have hN1 := hE1.n
      have hS1 := hE.trans hE1
      repeat (first | (refine aw_seq ?_) | (refine aw_reg0 (by simp only [SZ, Nat.reduceAdd]; exact rfl) ?_) | (refine aw_reg (by decide +kernel) (by simp only [SZ, Nat.reduceAdd]; exact rfl) ?_) | (refine aw_regS (by decide +kernel) (by simp only [SZ, Nat.reduceAdd]; exact rfl) ?_) | (refine arl_nil ?_) | (refine aw_skip ?_) | (refine aw_block ?_) | (refine aw_exit ?_) | (refine aw_ret ?_) | (refine arl_cons rfl rfl (by simp +decide only [aop, abuiltin, aeval, aintBin, bin_int, aload_bump, SS, reduceIte, reduceCtorEq]; exact rfl) (by first | rfl | with_reducible assumption) rfl ?_) | (refine arl_none rfl rfl (by simp +decide only [aop, abuiltin, aeval, aintBin, bin_int, aload_bump, SS, reduceIte, reduceCtorEq]; exact rfl) rfl rfl ?_) | (refine arl_off rfl rfl ?_) | (refine aw_condT (by simp +decide only [aop, abuiltin, aeval, aintBin, bin_int, aload_bump, SS, reduceIte, reduceCtorEq]; first | done | exact rfl) ?_) | (refine aw_condF (by simp +decide only [aop, abuiltin, aeval, aintBin, bin_int, aload_bump, SS, reduceIte, reduceCtorEq]; first | done | exact rfl) ?_))
      refine AW.mono (AW.wf (aw_rounds_wf (fun d fr' s' => Ext st s' ∧ ∃ (u : Nat) (w : List Int), d = u ∧ u < 18446744073709551616 ∧ w ++ dig u = vput vs[k] ∧ fr' 8 = v ∧ fr' 9 = i64 vs.length ∧ fr' 10 = i64 k ∧ fr' 6 = u64 u ∧ OwB s' (fun g => st.n ≤ g) (fr' 3) (vputAll (vs.take k) ++ w))
        (Q := fun e' fr' s' => e' = .exit 2 ∧ Ext st s' ∧ ∃ (u : Nat) (w : List Int), u < 128 ∧ w ++ dig u = vput vs[k] ∧ fr' 8 = v ∧ fr' 9 = i64 vs.length ∧ fr' 10 = i64 k ∧ fr' 6 = u64 u ∧ OwB s' (fun g => st.n ≤ g) (fr' 3) (vputAll (vs.take k) ++ w)) ?_ (zig vs[k]).toNat _ _ (by repeat (first | assumption | (refine WF.bump ?_ _))) ?_) (by repeat (first | assumption | (refine WF.bump ?_ _)))) ?_
      · rintro u fr s' hws' ⟨hE', d, w, rfl, hu, hw', f8, f9, f10, f6, hO'⟩
        have hos' := hO'.solid
        have hEn' := hE'.n
        have hwl := congrArg List.length hw'
        rw [List.length_append] at hwl
        have hvl := vput_len hfv
        by_cases h128 : 128 ≤ u
        · have hd2 : decide ((u : Int) ≥ 128) = true := decide_eq_true (by omega)
          have e1 : Go.bits .or .u8 (IntKind.u8.wrap (u : Int)) 128 = ((u % 128 : Nat) : Int) + 128 := by rw [IntKind.wrap_u8, or_low]
          have e2 : (u : Int).fdiv (2 ^ min (7 : Int).toNat IntKind.u64.bits) = ((u / 128 : Nat) : Int) := by rw [show (2 : Int) ^ min (7 : Int).toNat IntKind.u64.bits = 128 from rfl, Int.fdiv_eq_ediv_of_nonneg _ (by decide)]; omega
          rw [dig_big (by omega), List.append_cons] at hw'
          repeat (first | (refine aw_seq ?_) | (refine aw_reg0 (by simp only [SZ, Nat.reduceAdd]; exact rfl) ?_) | (refine aw_reg (by decide +kernel) (by simp only [SZ, Nat.reduceAdd]; exact rfl) ?_) | (refine aw_regS (by decide +kernel) (by simp only [SZ, Nat.reduceAdd]; exact rfl) ?_) | (refine arl_nil ?_) | (refine aw_skip ?_) | (refine aw_block ?_) | (refine aw_exit ?_) | (refine aw_ret ?_) | (refine arl_cons rfl rfl (by simp +decide only [aop, abuiltin, aeval, aintBin, bin_int, aload_bump, SS, reduceIte, reduceCtorEq, f6, hd2, conv_int Tryd.underlying45 Tryd.underlying5, e1, lit1]; exact rfl) (by first | rfl | with_reducible assumption) rfl ?_) | (refine arl_none rfl rfl (by simp +decide only [aop, abuiltin, aeval, aintBin, bin_int, aload_bump, SS, reduceIte, reduceCtorEq, f6, hd2, conv_int Tryd.underlying45 Tryd.underlying5, e1, lit1]; exact rfl) rfl rfl ?_) | (refine arl_off rfl rfl ?_) | (refine aw_condT (by simp +decide only [aop, abuiltin, aeval, aintBin, bin_int, aload_bump, SS, reduceIte, reduceCtorEq, f6, hd2, conv_int Tryd.underlying45 Tryd.underlying5, e1, lit1]; first | done | exact rfl) ?_) | (refine aw_condF (by simp +decide only [aop, abuiltin, aeval, aintBin, bin_int, aload_bump, SS, reduceIte, reduceCtorEq, f6, hd2, conv_int Tryd.underlying45 Tryd.underlying5, e1, lit1]; first | done | exact rfl) ?_))
          refine arl_appW (K := fun g => st.n ≤ g) (K' := fun _ => True) (xs := vputAll (vs.take k) ++ w) (ns := [((u % 128 : Nat) : Int) + 128]) rfl rfl rfl (hO'.keep (G := fun _ => False) (by repeat (first | assumption | exact Keeps.refl _ _ | (refine Keeps.bumpR ?_ _) | (refine Keeps.put ?_ (by assumption) (by simp only [n_bump, n_put, n_touch, n_kill] at *; omega)))) (fun _ _ h => h)) (RdB.lit _ _ _ [_]) (by simp only [n_bump, n_put, n_touch, n_kill] at *; omega) (by simp; omega) ?_
          intro y s2 hO2 hn2 hK2 hwf2
          have hys := hO2.solid
          have hS2 := hK2 (fun _ => False) st hw (by repeat (first | assumption | exact Keeps.refl _ _ | (refine Keeps.bumpR ?_ _) | (refine Keeps.put ?_ (by assumption) (by simp only [n_bump, n_put, n_touch, n_kill] at *; omega)))) (by simp only [n_bump, n_put, n_touch, n_kill] at *; omega) (fun g hg => .inr hg)
          repeat (first | (refine aw_seq ?_) | (refine aw_reg0 (by simp only [SZ, Nat.reduceAdd]; exact rfl) ?_) | (refine aw_reg (by decide +kernel) (by simp only [SZ, Nat.reduceAdd]; exact rfl) ?_) | (refine aw_regS (by decide +kernel) (by simp only [SZ, Nat.reduceAdd]; exact rfl) ?_) | (refine arl_nil ?_) | (refine aw_skip ?_) | (refine aw_block ?_) | (refine aw_exit ?_) | (refine aw_ret ?_) | (refine arl_cons rfl rfl (by simp +decide only [aop, abuiltin, aeval, aintBin, bin_int, aload_bump, SS, reduceIte, reduceCtorEq, f6, e2]; exact rfl) (by first | rfl | with_reducible assumption) rfl ?_) | (refine arl_none rfl rfl (by simp +decide only [aop, abuiltin, aeval, aintBin, bin_int, aload_bump, SS, reduceIte, reduceCtorEq, f6, e2]; exact rfl) rfl rfl ?_) | (refine arl_off rfl rfl ?_) | (refine aw_condT (by simp +decide only [aop, abuiltin, aeval, aintBin, bin_int, aload_bump, SS, reduceIte, reduceCtorEq, f6, e2]; first | done | exact rfl) ?_) | (refine aw_condF (by simp +decide only [aop, abuiltin, aeval, aintBin, bin_int, aload_bump, SS, reduceIte, reduceCtorEq, f6, e2]; first | done | exact rfl) ?_))
          refine ⟨u / 128, by omega, hS2.trans (by repeat (first | exact Keeps.refl _ _ | (refine Keeps.bumpR ?_ _))), u / 128, _, rfl, by omega, hw', f8, f9, f10, rfl, ?_⟩
          rw [← List.append_assoc]
          exact hO2.up (by repeat (first | exact Keeps.refl _ _ | (refine Keeps.bumpR ?_ _)))
        · have hd2 : decide ((u : Int) ≥ 128) = false := decide_eq_false (by omega)
          repeat (first | (refine aw_seq ?_) | (refine aw_reg0 (by simp only [SZ, Nat.reduceAdd]; exact rfl) ?_) | (refine aw_reg (by decide +kernel) (by simp only [SZ, Nat.reduceAdd]; exact rfl) ?_) | (refine aw_regS (by decide +kernel) (by simp only [SZ, Nat.reduceAdd]; exact rfl) ?_) | (refine arl_nil ?_) | (refine aw_skip ?_) | (refine aw_block ?_) | (refine aw_exit ?_) | (refine aw_ret ?_) | (refine arl_cons rfl rfl (by simp +decide only [aop, abuiltin, aeval, aintBin, bin_int, aload_bump, SS, reduceIte, reduceCtorEq, f6, hd2]; exact rfl) (by first | rfl | with_reducible assumption) rfl ?_) | (refine arl_none rfl rfl (by simp +decide only [aop, abuiltin, aeval, aintBin, bin_int, aload_bump, SS, reduceIte, reduceCtorEq, f6, hd2]; exact rfl) rfl rfl ?_) | (refine arl_off rfl rfl ?_) | (refine aw_condT (by simp +decide only [aop, abuiltin, aeval, aintBin, bin_int, aload_bump, SS, reduceIte, reduceCtorEq, f6, hd2]; first | done | exact rfl) ?_) | (refine aw_condF (by simp +decide only [aop, abuiltin, aeval, aintBin, bin_int, aload_bump, SS, reduceIte, reduceCtorEq, f6, hd2]; first | done | exact rfl) ?_))
          exact ⟨rfl, hE'.trans (by repeat (first | exact Keeps.refl _ _ | (refine Keeps.bumpR ?_ _))), u, w, by omega, hw', f8, f9, f10, f6, hO'.up (by repeat (first | exact Keeps.refl _ _ | (refine Keeps.bumpR ?_ _)))⟩
      · refine ⟨hS1.trans (by repeat (first | exact Keeps.refl _ _ | (refine Keeps.bumpR ?_ _))), (zig vs[k]).toNat, [], rfl, by omega, rfl, f8, f9, f10, ?_, ?_⟩
        · show AV.pl _ = _
          rw [Int.toNat_of_nonneg hzr.1]
        · rw [List.append_nil]
          exact (hO.up hE1).up (by repeat (first | exact Keeps.refl _ _ | (refine Keeps.bumpR ?_ _)))
      rintro e2 fr2 s2 ⟨hw2, hn2, rfl, hE2, u, w, hu, hwd, f8, f9, f10, f6, hO2⟩
      have hos2 := hO2.solid
      have hEn2 := hE2.n
      have hwl := congrArg List.length hwd
      rw [List.length_append] at hwl
      have hvl := vput_len hfv
      rw [dig_small hu] at hwd
      have e1 : IntKind.u8.wrap (u : Int) = u := by rw [IntKind.wrap_u8]; omega
      repeat (first | (refine aw_seq ?_) | (refine aw_reg0 (by simp only [SZ, Nat.reduceAdd]; exact rfl) ?_) | (refine aw_reg (by decide +kernel) (by simp only [SZ, Nat.reduceAdd]; exact rfl) ?_) | (refine aw_regS (by decide +kernel) (by simp only [SZ, Nat.reduceAdd]; exact rfl) ?_) | (refine arl_nil ?_) | (refine aw_skip ?_) | (refine aw_block ?_) | (refine aw_exit ?_) | (refine aw_ret ?_) | (refine arl_cons rfl rfl (by simp +decide only [aop, abuiltin, aeval, aintBin, bin_int, aload_bump, SS, reduceIte, reduceCtorEq, f6, conv_int Tryd.underlying45 Tryd.underlying5, e1, lit1]; exact rfl) (by first | rfl | with_reducible assumption) rfl ?_) | (refine arl_none rfl rfl (by simp +decide only [aop, abuiltin, aeval, aintBin, bin_int, aload_bump, SS, reduceIte, reduceCtorEq, f6, conv_int Tryd.underlying45 Tryd.underlying5, e1, lit1]; exact rfl) rfl rfl ?_) | (refine arl_off rfl rfl ?_) | (refine aw_condT (by simp +decide only [aop, abuiltin, aeval, aintBin, bin_int, aload_bump, SS, reduceIte, reduceCtorEq, f6, conv_int Tryd.underlying45 Tryd.underlying5, e1, lit1]; first | done | exact rfl) ?_) | (refine aw_condF (by simp +decide only [aop, abuiltin, aeval, aintBin, bin_int, aload_bump, SS, reduceIte, reduceCtorEq, f6, conv_int Tryd.underlying45 Tryd.underlying5, e1, lit1]; first | done | exact rfl) ?_))
      refine arl_appW (K := fun g => st.n ≤ g) (K' := fun _ => True) (xs := vputAll (vs.take k) ++ w) (ns := [(u : Int)]) rfl rfl rfl (hO2.keep (G := fun _ => False) (by repeat (first | assumption | exact Keeps.refl _ _ | (refine Keeps.bumpR ?_ _) | (refine Keeps.put ?_ (by assumption) (by simp only [n_bump, n_put, n_touch, n_kill] at *; omega)))) (fun _ _ h => h)) (RdB.lit _ _ _ [_]) (by simp only [n_bump, n_put, n_touch, n_kill] at *; omega) (by simp; omega) ?_
      intro y s3 hO3 hn3 hK3 hwf3
      have hys := hO3.solid
      have hS3 := hK3 (fun _ => False) st hw (by repeat (first | assumption | exact Keeps.refl _ _ | (refine Keeps.bumpR ?_ _) | (refine Keeps.put ?_ (by assumption) (by simp only [n_bump, n_put, n_touch, n_kill] at *; omega)))) (by simp only [n_bump, n_put, n_touch, n_kill] at *; omega) (fun g hg => .inr hg)
      repeat (first | (refine aw_seq ?_) | (refine aw_reg0 (by simp only [SZ, Nat.reduceAdd]; exact rfl) ?_) | (refine aw_reg (by decide +kernel) (by simp only [SZ, Nat.reduceAdd]; exact rfl) ?_) | (refine aw_regS (by decide +kernel) (by simp only [SZ, Nat.reduceAdd]; exact rfl) ?_) | (refine arl_nil ?_) | (refine aw_skip ?_) | (refine aw_block ?_) | (refine aw_exit ?_) | (refine aw_ret ?_) | (refine arl_cons rfl rfl (by simp +decide only [aop, abuiltin, aeval, aintBin, bin_int, aload_bump, SS, reduceIte, reduceCtorEq, f10, hwk]; exact rfl) (by first | rfl | with_reducible assumption) rfl ?_) | (refine arl_none rfl rfl (by simp +decide only [aop, abuiltin, aeval, aintBin, bin_int, aload_bump, SS, reduceIte, reduceCtorEq, f10, hwk]; exact rfl) rfl rfl ?_) | (refine arl_off rfl rfl ?_) | (refine aw_condT (by simp +decide only [aop, abuiltin, aeval, aintBin, bin_int, aload_bump, SS, reduceIte, reduceCtorEq, f10, hwk]; first | done | exact rfl) ?_) | (refine aw_condF (by simp +decide only [aop, abuiltin, aeval, aintBin, bin_int, aload_bump, SS, reduceIte, reduceCtorEq, f10, hwk]; first | done | exact rfl) ?_))
      refine ⟨vs.length - (k + 1), by omega, hS3.trans (by repeat (first | exact Keeps.refl _ _ | (refine Keeps.bumpR ?_ _))), k + 1, by omega, rfl, f8, f9, rfl, ?_⟩
      have e3 : vputAll (vs.take (k + 1)) = vputAll (vs.take k) ++ w ++ [(u : Int)] := by
        rw [List.take_succ_eq_append_getElem hlt, List.append_assoc, hwd]
        simp only [vputAll, List.map_append, List.flatten_append, List.map_cons, List.map_nil, List.flatten_cons, List.flatten_nil, List.append_nil]
      rw [e3]
      exact hO3.up (by repeat (first | exact Keeps.refl _ _ | (refine Keeps.bumpR ?_ _)))
    · have hd : decide ((k : Int) < (vs.length : Int)) = false := decide_eq_false (by omega)
      rw [List.take_of_length_le (by omega)] at hO
      repeat (first | (refine aw_seq ?_) | (refine aw_reg0 (by simp only [SZ, Nat.reduceAdd]; exact rfl) ?_) | (refine aw_reg (by decide +kernel) (by simp only [SZ, Nat.reduceAdd]; exact rfl) ?_) | (refine aw_regS (by decide +kernel) (by simp only [SZ, Nat.reduceAdd]; exact rfl) ?_) | (refine arl_nil ?_) | (refine aw_skip ?_) | (refine aw_block ?_) | (refine aw_exit ?_) | (refine aw_ret ?_) | (refine arl_cons rfl rfl (by simp +decide only [aop, abuiltin, aeval, aintBin, bin_int, aload_bump, SS, reduceIte, reduceCtorEq, f9, f10, hd]; exact rfl) (by first | rfl | with_reducible assumption) rfl ?_) | (refine arl_none rfl rfl (by simp +decide only [aop, abuiltin, aeval, aintBin, bin_int, aload_bump, SS, reduceIte, reduceCtorEq, f9, f10, hd]; exact rfl) rfl rfl ?_) | (refine arl_off rfl rfl ?_) | (refine aw_condT (by simp +decide only [aop, abuiltin, aeval, aintBin, bin_int, aload_bump, SS, reduceIte, reduceCtorEq, f9, f10, hd]; first | done | exact rfl) ?_) | (refine aw_condF (by simp +decide only [aop, abuiltin, aeval, aintBin, bin_int, aload_bump, SS, reduceIte, reduceCtorEq, f9, f10, hd]; first | done | exact rfl) ?_))
      exact ⟨.inr rfl, _, rfl, hE.trans (by repeat (first | exact Keeps.refl _ _ | (refine Keeps.bumpR ?_ _))), hos, hO.up (by repeat (first | exact Keeps.refl _ _ | (refine Keeps.bumpR ?_ _)))⟩
  · exact ⟨(by repeat (first | assumption | exact Keeps.refl _ _ | (refine Keeps.bumpR ?_ _) | (refine Keeps.put ?_ (by assumption) (by simp only [n_bump, n_put, n_touch, n_kill] at *; omega)))), 0, by omega, rfl, rfl, rfl, rfl, ((OwB.new _ (get_put _ _)).mono (fun g (h : g = _) => by rw [h]; exact (by first | omega | (simp only [n_bump, n_put]; omega) | (simp only [n_bump, n_put] at *; omega)))).up (by repeat (first | exact Keeps.refl _ _ | (refine Keeps.bumpR ?_ _)))⟩
theorem num_one {st : St} {id : Nat} (n : Int) : RdE numK (st.put id ⟨[i64 n], 2, true, id⟩) (fun _ => True) (.sl id 0 1 1) [n] :=
  RdL.one (R := fun cs (x : Int) => cs = [i64 x]) (cs := [i64 n]) rfl rfl st (K := fun _ => True) trivial 2
theorem vPut_ok {st : St} (hw : WF st) {v : Int} (hv : fit v) : ACalls Tryd.prog 13 [i64 v] st (fun r s => Ext st s ∧ r.solid = true ∧ OwB s (fun g => st.n ≤ g) r (vput v)) := by
  refine acalls_of Tryd.func13 rfl (by kernel_rfl) rfl ?_
  repeat (first | (refine aw_seq ?_) | (refine aw_reg0 (by simp only [SZ, Nat.reduceAdd]; exact rfl) ?_) | (refine aw_reg (by decide +kernel) (by simp only [SZ, Nat.reduceAdd]; exact rfl) ?_) | (refine aw_regS (by decide +kernel) (by simp only [SZ, Nat.reduceAdd]; exact rfl) ?_) | (refine arl_nil ?_) | (refine aw_skip ?_) | (refine aw_block ?_) | (refine aw_exit ?_) | (refine aw_ret ?_) | (refine arl_cons rfl rfl (by simp +decide only [aop, abuiltin, aeval, aintBin, bin_int, aload_bump, SS, reduceIte, reduceCtorEq, litI1]; exact rfl) (by first | rfl | with_reducible assumption) rfl ?_) | (refine arl_none rfl rfl (by simp +decide only [aop, abuiltin, aeval, aintBin, bin_int, aload_bump, SS, reduceIte, reduceCtorEq, litI1]; exact rfl) rfl rfl ?_) | (refine arl_off rfl rfl ?_) | (refine aw_condT (by simp +decide only [aop, abuiltin, aeval, aintBin, bin_int, aload_bump, SS, reduceIte, reduceCtorEq, litI1]; first | done | exact rfl) ?_) | (refine aw_condF (by simp +decide only [aop, abuiltin, aeval, aintBin, bin_int, aload_bump, SS, reduceIte, reduceCtorEq, litI1]; first | done | exact rfl) ?_))
  refine arl_call rfl rfl rfl rfl rfl rfl ((vPutAll_ok (vs := [v]) (by repeat (first | assumption | (refine WF.bump ?_ _) | (refine WF.put ?_ (by simp only [n_bump, n_put, n_touch, n_kill] at *; omega) (by simp only [n_bump, n_put, n_touch, n_kill] at *; omega)))) (num_one v) (by simp) (by simpa using hv)).wf (by repeat (first | assumption | (refine WF.bump ?_ _) | (refine WF.put ?_ (by simp only [n_bump, n_put, n_touch, n_kill] at *; omega) (by simp only [n_bump, n_put, n_touch, n_kill] at *; omega)))) |>.mono ?_)
  rintro r s1 ⟨hw1, hn1, hE1, hrs, hO⟩
  refine ⟨hrs, ?_⟩
  repeat (first | (refine aw_seq ?_) | (refine aw_reg0 (by simp only [SZ, Nat.reduceAdd]; exact rfl) ?_) | (refine aw_reg (by decide +kernel) (by simp only [SZ, Nat.reduceAdd]; exact rfl) ?_) | (refine aw_regS (by decide +kernel) (by simp only [SZ, Nat.reduceAdd]; exact rfl) ?_) | (refine arl_nil ?_) | (refine aw_skip ?_) | (refine aw_block ?_) | (refine aw_exit ?_) | (refine aw_ret ?_) | (refine arl_cons rfl rfl (by simp +decide only [aop, abuiltin, aeval, aintBin, bin_int, aload_bump, SS, reduceIte, reduceCtorEq]; exact rfl) (by first | rfl | with_reducible assumption) rfl ?_) | (refine arl_none rfl rfl (by simp +decide only [aop, abuiltin, aeval, aintBin, bin_int, aload_bump, SS, reduceIte, reduceCtorEq]; exact rfl) rfl rfl ?_) | (refine arl_off rfl rfl ?_) | (refine aw_condT (by simp +decide only [aop, abuiltin, aeval, aintBin, bin_int, aload_bump, SS, reduceIte, reduceCtorEq]; first | done | exact rfl) ?_) | (refine aw_condF (by simp +decide only [aop, abuiltin, aeval, aintBin, bin_int, aload_bump, SS, reduceIte, reduceCtorEq]; first | done | exact rfl) ?_))
  refine ⟨.inr rfl, _, rfl, (Keeps.trans (show Ext st _ from (by repeat (first | assumption | exact Keeps.refl _ _ | (refine Keeps.bumpR ?_ _) | (refine Keeps.put ?_ (by assumption) (by simp only [n_bump, n_put, n_touch, n_kill] at *; omega))))) hE1).trans (by repeat (first | exact Keeps.refl _ _ | (refine Keeps.bumpR ?_ _))), hrs, ?_⟩
  have e : vputAll [v] = vput v := by simp [vputAll]
  rw [e] at hO
  exact (hO.mono (fun g h => by simp only [n_bump, n_put] at h; omega)).up (by repeat (first | exact Keeps.refl _ _ | (refine Keeps.bumpR ?_ _)))
end Go.Proofs.YthjfncppiffnmaaDoor.Ra
