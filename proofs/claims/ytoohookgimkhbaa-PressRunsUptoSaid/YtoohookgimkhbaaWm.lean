/- leatlaw06.PressRuns. -/
import Derived.Test.YtoohookgimkhbaaWi
import Derived.Test.YtoohookgimkhbaaWq
namespace Go.Proofs.Ytoohookgimkhbaa.Ra
open Go Go.RowKit Pn Vn
set_option linter.unusedVariables false
set_option linter.unusedSimpArgs false
set_option maxRecDepth 10000
/-- Copies of one byte back, as many bytes as are left, at least four each. -/
def cps : Nat → Nat → List Tok
  | 0, _ => []
  | f + 1, left => if left < 4 then [] else ([], 1, ((min left 131 : Nat) : Int)) :: cps f (left - min left 131)
def lft : Nat → Nat → Nat
  | 0, left => left
  | f + 1, left => if left < 4 then left else lft f (left - min left 131)
theorem lcp_rep (c : Int) (n : Nat) : ∀ (m p i : Nat), p ≤ i → i ≤ n → lcp (List.replicate n c) m p i = min m (n - i) := by
  intro m
  induction m with
  | zero => intro p i _ _; rw [lcp]; omega
  | succ m ih =>
    intro p i hp hi
    rw [lcp, List.length_replicate]
    by_cases h : i < n
    · have e1 : (List.replicate n c).getD p 0 = c := by rw [List.getD_eq_getElem?_getD, List.getElem?_replicate, if_pos (by omega)]; rfl
      have e2 : (List.replicate n c).getD i 0 = c := by rw [List.getD_eq_getElem?_getD, List.getElem?_replicate, if_pos h]; rfl
      rw [if_pos ⟨h, by rw [e1, e2]⟩, ih (p + 1) (i + 1) (by omega) (by omega)]
      omega
    · rw [if_neg (fun k => h k.1)]
      omega
theorem bst_zero1 (b : List Int) (i : Nat) (d : Int) (r : Nat × Nat) (h : d ≤ 0) (p : Nat) : bst b i p d r = r := by
  cases p with
  | zero => rfl
  | succ p => rw [bst, if_neg (by omega)]
theorem bst_rep (c : Int) (n i : Nat) (h1 : 1 ≤ i) (hi : i ≤ n) : bst (List.replicate n c) i i 1 (0, 0) = if 4 ≤ n - i then (1, min 131 (n - i)) else (0, 0) := by
  have hl := fun p (hp : p ≤ i) => lcp_rep c n 131 p i hp hi
  by_cases h4 : 4 ≤ n - i
  · rw [if_pos h4]
    obtain ⟨p, rfl⟩ : ∃ p, i = p + 1 := ⟨i - 1, by omega⟩
    rw [bst, if_pos ⟨by omega, by decide⟩, hl p (by omega), if_pos (by omega), if_pos (by simp only; omega), show (1 : Int) - 1 = 0 from rfl, bst_zero1 _ _ _ _ (Int.le_refl _)]
    congr 1
    omega
  · rw [if_neg h4]
    have : ∀ p, p ≤ i → bst (List.replicate n c) i p 1 (0, 0) = (0, 0) := by
      intro p
      induction p with
      | zero => intro _; rfl
      | succ p ih =>
        intro hp
        rw [bst]
        split
        · rw [if_neg (by rw [hl p (by omega)]; omega)]
          exact ih (by omega)
        · rfl
    exact this i (Nat.le_refl _)
/-- Behind the first byte. -/
theorem grd_rep (c : Int) (n : Nat) : ∀ (f i g : Nat) (acc : List Tok), 1 ≤ i → i ≤ n → n ≤ f + i → n - i ≤ g → grd (List.replicate n c) 1 f i i acc = acc ++ cps g (n - i) ++ pcs (List.replicate (lft g (n - i)) c) := by
  have tail : ∀ (f i j : Nat) (acc : List Tok), 1 ≤ i → i ≤ j → j ≤ n → n ≤ f + j → n - i < 4 → grd (List.replicate n c) 1 f i j acc = acc ++ pcs (List.replicate (n - i) c) := by
    intro f
    have fin : ∀ (i : Nat) (acc : List Tok), acc ++ pcs (((List.replicate n c).drop i).take (n - i)) = acc ++ pcs (List.replicate (n - i) c) := by
      intro i acc
      rw [List.drop_replicate, List.take_replicate, Nat.min_self]
    induction f with
    | zero =>
      intro i j acc h1 h2 h3 h4 h5
      obtain rfl : j = n := by omega
      rw [grd]
      exact fin i acc
    | succ f ih =>
      intro i j acc h1 h2 h3 h4 h5
      rw [grd, List.length_replicate]
      by_cases hj : j < n
      · have hb : bst (List.replicate n c) j j 1 (0, 0) = (0, 0) := by rw [bst_rep c n j (by omega) h3, if_neg (by omega)]
        rw [if_pos hj, hb, if_pos rfl]
        exact ih i (j + 1) acc h1 (by omega) (by omega) (by omega) h5
      · obtain rfl : j = n := by omega
        rw [if_neg hj]
        exact fin i acc
  intro f
  induction f with
  | zero =>
    intro i g acc h1 h2 h3 h4
    obtain rfl : i = n := by omega
    rw [tail 0 i i acc h1 (Nat.le_refl _) (Nat.le_refl _) (by omega) (by omega), Nat.sub_self]
    cases g <;> simp [cps, lft]
  | succ f ih =>
    intro i g acc h1 h2 h3 h4
    by_cases h5 : n - i < 4
    · rw [tail (f + 1) i i acc h1 (Nat.le_refl _) h2 h3 h5]
      cases g with
      | zero => simp [cps, lft]
      | succ g => rw [cps, lft, if_pos h5, if_pos h5, List.append_nil]
    · obtain ⟨g', rfl⟩ : ∃ g', g = g' + 1 := ⟨g - 1, by omega⟩
      have hb : bst (List.replicate n c) i i 1 (0, 0) = (1, min 131 (n - i)) := by rw [bst_rep c n i h1 h2, if_pos (by omega)]
      rw [cps, lft, if_neg h5, if_neg h5, grd, List.length_replicate, if_pos (by omega), hb, if_neg (by simp only; omega), Nat.sub_self, List.take_zero, pcs_nil, List.append_nil]
      simp only
      rw [ih (i + min 131 (n - i)) g' _ (by omega) (by omega) (by omega) (by omega)]
      have e : n - (i + min 131 (n - i)) = n - i - min (n - i) 131 := by omega
      have e2 : min 131 (n - i) = min (n - i) 131 := by omega
      rw [e, e2]
      simp
theorem gtok_rep (c : Int) (n : Nat) (h : 5 ≤ n) : grd (List.replicate n c) (min 1 32) n 0 0 [] = ([c], 0, 0) :: (cps n (n - 1) ++ pcs (List.replicate (lft n (n - 1)) c)) := by
  obtain ⟨m, rfl⟩ : ∃ m, n = m + 2 := ⟨n - 2, by omega⟩
  rw [show min (1 : Int) 32 = 1 from rfl]
  have e0 : bst (List.replicate (m + 2) c) 0 0 1 (0, 0) = (0, 0) := rfl
  have hb : bst (List.replicate (m + 2) c) (0 + 1) (0 + 1) 1 (0, 0) = (1, min 131 (m + 2 - (0 + 1))) := by rw [bst_rep c (m + 2) (0 + 1) (by omega) (by omega), if_pos (by omega)]
  rw [grd, List.length_replicate, if_pos (by omega), e0, if_pos rfl, grd, List.length_replicate, if_pos (by omega), hb, if_neg (by simp only; omega)]
  simp only [List.drop_zero, List.nil_append]
  have e1 : (List.replicate (m + 2) c).take (0 + 1 - 0) = [c] := by simp
  have e2 : pcs [c] = [([c], 0, 0)] := rfl
  rw [e1, e2, grd_rep c (m + 2) m (0 + 1 + min 131 (m + 2 - (0 + 1))) (m + 1) _ (by omega) (by omega) (by omega) (by omega)]
  have hc : cps (m + 2) (m + 1) = ([], 1, ((min (m + 1) 131 : Nat) : Int)) :: cps (m + 1) (m + 1 - min (m + 1) 131) := by rw [cps, if_neg (by omega)]
  have hf : lft (m + 2) (m + 1) = lft (m + 1) (m + 1 - min (m + 1) 131) := by rw [lft, if_neg (by omega)]
  have e4 : min 131 (m + 1) = min (m + 1) 131 := by omega
  have e3 : m + 2 - (0 + 1 + min (m + 1) 131) = m + 1 - min (m + 1) 131 := by omega
  rw [show m + 2 - 1 = m + 1 from rfl, hc, hf, e4, e3]
  simp
theorem pcs_small (c : Int) (l : Nat) (h : l < 4) : pcs (List.replicate l c) = if l = 0 then [] else [(List.replicate l c, 0, 0)] := by
  by_cases h0 : l = 0
  · subst h0; rfl
  · rw [if_neg h0, pcs_step _ (by intro e; have := congrArg List.length e; simp at this; omega), List.take_of_length_le (by simp; omega), List.drop_of_length_le (by simp; omega), pcs_nil]
theorem lft_lt : ∀ f left, left ≤ f → lft f left < 4 ∧ lft f left ≤ left := by
  intro f
  induction f with
  | zero => intro left h; rw [lft]; omega
  | succ f ih =>
    intro left h
    rw [lft]
    split
    · omega
    · have := ih (left - min left 131) (by omega)
      omega
set_option maxHeartbeats 8000000 in
theorem pruns_ok {st : St} (hw : WF st) (c n : Int) (hc : 0 ≤ c ∧ c < 256) (hn : -9223372036854775808 ≤ n ∧ n ≤ 9223372036854775807) :
    ACalls Try.prog 8 [u8 c, i64 n] st (fun r s => r = .pl (.bool true)) := by
  refine acalls_of Try.func8 rfl (by kernel_rfl) rfl ?_
  repeat (first | (refine aw_seq ?_) | (refine aw_reg0 (by simp only [SZ, Nat.reduceAdd]; exact rfl) ?_) | (refine aw_reg (by decide +kernel) (by simp only [SZ, Nat.reduceAdd]; exact rfl) ?_) | (refine aw_regS (by decide +kernel) (by simp only [SZ, Nat.reduceAdd]; exact rfl) ?_) | (refine arl_nil ?_) | (refine aw_skip ?_) | (refine aw_block ?_) | (refine aw_exit ?_) | (refine aw_ret ?_) | (refine arl_cons rfl rfl (by simp +decide only [aop, abuiltin, aeval, aintBin, bin_int, aload_bump, SS, reduceIte, reduceCtorEq]; exact rfl) (by first | rfl | with_reducible assumption) rfl ?_) | (refine arl_none rfl rfl (by simp +decide only [aop, abuiltin, aeval, aintBin, bin_int, aload_bump, SS, reduceIte, reduceCtorEq]; exact rfl) rfl rfl ?_) | (refine arl_off rfl rfl ?_) | (refine aw_condT (by simp +decide only [aop, abuiltin, aeval, aintBin, bin_int, aload_bump, SS, reduceIte, reduceCtorEq]; first | done | exact rfl) ?_) | (refine aw_condF (by simp +decide only [aop, abuiltin, aeval, aintBin, bin_int, aload_bump, SS, reduceIte, reduceCtorEq]; first | done | exact rfl) ?_))
  refine arl_call rfl rfl rfl rfl rfl rfl ((palive_ok (by repeat (first | assumption | (refine WF.bump ?_ _)))).wf (by repeat (first | assumption | (refine WF.bump ?_ _) | (refine WF.put ?_ (by simp only [n_bump, n_put, n_touch, n_kill] at *; omega) (by simp only [n_bump, n_put, n_touch, n_kill] at *; omega)))) |>.mono ?_)
  rintro r s1 ⟨hw1, hn1, hE1, rfl⟩
  refine ⟨by first | rfl | with_reducible assumption, ?_⟩
  replace hE1 : Ext st s1 := Keeps.trans (by repeat (first | assumption | exact Keeps.refl _ _ | (refine Keeps.bumpR ?_ _) | (refine Keeps.put ?_ (by assumption) (by simp only [n_bump, n_put, n_touch, n_kill] at *; omega)))) hE1
  have hN1 := hE1.n
  by_cases hlo : n < 5
  · have d1 : decide (n < 5) = true := decide_eq_true hlo
    repeat (first | (refine aw_seq ?_) | (refine aw_reg0 (by simp only [SZ, Nat.reduceAdd]; exact rfl) ?_) | (refine aw_reg (by decide +kernel) (by simp only [SZ, Nat.reduceAdd]; exact rfl) ?_) | (refine aw_regS (by decide +kernel) (by simp only [SZ, Nat.reduceAdd]; exact rfl) ?_) | (refine arl_nil ?_) | (refine aw_skip ?_) | (refine aw_block ?_) | (refine aw_exit ?_) | (refine aw_ret ?_) | (refine arl_cons rfl rfl (by simp +decide only [aop, abuiltin, aeval, aintBin, bin_int, aload_bump, SS, reduceIte, reduceCtorEq, d1]; exact rfl) (by first | rfl | with_reducible assumption) rfl ?_) | (refine arl_none rfl rfl (by simp +decide only [aop, abuiltin, aeval, aintBin, bin_int, aload_bump, SS, reduceIte, reduceCtorEq, d1]; exact rfl) rfl rfl ?_) | (refine arl_off rfl rfl ?_) | (refine aw_condT (by simp +decide only [aop, abuiltin, aeval, aintBin, bin_int, aload_bump, SS, reduceIte, reduceCtorEq, d1]; first | done | exact rfl) ?_) | (refine aw_condF (by simp +decide only [aop, abuiltin, aeval, aintBin, bin_int, aload_bump, SS, reduceIte, reduceCtorEq, d1]; first | done | exact rfl) ?_))
    exact ⟨.inr rfl, _, rfl, rfl⟩
  · have d1 : decide (n < 5) = false := decide_eq_false hlo
    by_cases hhi : n > 32768
    · have d2 : decide (n > 32768) = true := decide_eq_true hhi
      repeat (first | (refine aw_seq ?_) | (refine aw_reg0 (by simp only [SZ, Nat.reduceAdd]; exact rfl) ?_) | (refine aw_reg (by decide +kernel) (by simp only [SZ, Nat.reduceAdd]; exact rfl) ?_) | (refine aw_regS (by decide +kernel) (by simp only [SZ, Nat.reduceAdd]; exact rfl) ?_) | (refine arl_nil ?_) | (refine aw_skip ?_) | (refine aw_block ?_) | (refine aw_exit ?_) | (refine aw_ret ?_) | (refine arl_cons rfl rfl (by simp +decide only [aop, abuiltin, aeval, aintBin, bin_int, aload_bump, SS, reduceIte, reduceCtorEq, d1, d2]; exact rfl) (by first | rfl | with_reducible assumption) rfl ?_) | (refine arl_none rfl rfl (by simp +decide only [aop, abuiltin, aeval, aintBin, bin_int, aload_bump, SS, reduceIte, reduceCtorEq, d1, d2]; exact rfl) rfl rfl ?_) | (refine arl_off rfl rfl ?_) | (refine aw_condT (by simp +decide only [aop, abuiltin, aeval, aintBin, bin_int, aload_bump, SS, reduceIte, reduceCtorEq, d1, d2]; first | done | exact rfl) ?_) | (refine aw_condF (by simp +decide only [aop, abuiltin, aeval, aintBin, bin_int, aload_bump, SS, reduceIte, reduceCtorEq, d1, d2]; first | done | exact rfl) ?_))
      exact ⟨.inr rfl, _, rfl, rfl⟩
    · have d2 : decide (n > 32768) = false := decide_eq_false hhi
      obtain ⟨N, rfl⟩ : ∃ N : Nat, n = N := ⟨n.toNat, by omega⟩
      repeat (first | (refine aw_seq ?_) | (refine aw_reg0 (by simp only [SZ, Nat.reduceAdd]; exact rfl) ?_) | (refine aw_reg (by decide +kernel) (by simp only [SZ, Nat.reduceAdd]; exact rfl) ?_) | (refine aw_regS (by decide +kernel) (by simp only [SZ, Nat.reduceAdd]; exact rfl) ?_) | (refine arl_nil ?_) | (refine aw_skip ?_) | (refine aw_block ?_) | (refine aw_exit ?_) | (refine aw_ret ?_) | (refine arl_cons rfl rfl (by simp +decide only [aop, abuiltin, aeval, aintBin, bin_int, aload_bump, SS, reduceIte, reduceCtorEq, d1, d2, lit0]; exact rfl) (by first | rfl | with_reducible assumption) rfl ?_) | (refine arl_none rfl rfl (by simp +decide only [aop, abuiltin, aeval, aintBin, bin_int, aload_bump, SS, reduceIte, reduceCtorEq, d1, d2, lit0]; exact rfl) rfl rfl ?_) | (refine arl_off rfl rfl ?_) | (refine aw_condT (by simp +decide only [aop, abuiltin, aeval, aintBin, bin_int, aload_bump, SS, reduceIte, reduceCtorEq, d1, d2, lit0]; first | done | exact rfl) ?_) | (refine aw_condF (by simp +decide only [aop, abuiltin, aeval, aintBin, bin_int, aload_bump, SS, reduceIte, reduceCtorEq, d1, d2, lit0]; first | done | exact rfl) ?_))
      refine AW.mono (AW.wf (aw_rounds_wf (fun m fr s => Ext s1 s ∧ ∃ k : Nat, k ≤ N ∧ m = N - k ∧ fr 0 = u8 c ∧ fr 1 = i64 N ∧ fr 6 = i64 k ∧ OwB s (fun g => s1.n ≤ g) (fr 5) (List.replicate k c))
        (Q := fun e fr s => e = .exit 0 ∧ Ext s1 s ∧ fr 0 = u8 c ∧ fr 1 = i64 N ∧ OwB s (fun g => s1.n ≤ g) (fr 5) (List.replicate N c)) ?_ N _ _ (by repeat (first | assumption | (refine WF.bump ?_ _) | (refine WF.put ?_ (by simp only [n_bump, n_put, n_touch, n_kill] at *; omega) (by simp only [n_bump, n_put, n_touch, n_kill] at *; omega)))) ?_) (by repeat (first | assumption | (refine WF.bump ?_ _) | (refine WF.put ?_ (by simp only [n_bump, n_put, n_touch, n_kill] at *; omega) (by simp only [n_bump, n_put, n_touch, n_kill] at *; omega))))) ?_
      · rintro m fr s hws ⟨hE, k, hk, rfl, f0, f1, f6, hO⟩
        have hos := hO.solid
        have hEn := hE.n
        by_cases hlt : k < N
        · have d3 : decide ((k : Int) < (N : Int)) = true := decide_eq_true (by omega)
          have hwk := wrap_succ (k := k) (by omega)
          repeat (first | (refine aw_seq ?_) | (refine aw_reg0 (by simp only [SZ, Nat.reduceAdd]; exact rfl) ?_) | (refine aw_reg (by decide +kernel) (by simp only [SZ, Nat.reduceAdd]; exact rfl) ?_) | (refine aw_regS (by decide +kernel) (by simp only [SZ, Nat.reduceAdd]; exact rfl) ?_) | (refine arl_nil ?_) | (refine aw_skip ?_) | (refine aw_block ?_) | (refine aw_exit ?_) | (refine aw_ret ?_) | (refine arl_cons rfl rfl (by simp +decide only [aop, abuiltin, aeval, aintBin, bin_int, aload_bump, SS, reduceIte, reduceCtorEq, f6, f1, d3, f0, lit1]; exact rfl) (by first | rfl | with_reducible assumption) rfl ?_) | (refine arl_none rfl rfl (by simp +decide only [aop, abuiltin, aeval, aintBin, bin_int, aload_bump, SS, reduceIte, reduceCtorEq, f6, f1, d3, f0, lit1]; exact rfl) rfl rfl ?_) | (refine arl_off rfl rfl ?_) | (refine aw_condT (by simp +decide only [aop, abuiltin, aeval, aintBin, bin_int, aload_bump, SS, reduceIte, reduceCtorEq, f6, f1, d3, f0, lit1]; first | done | exact rfl) ?_) | (refine aw_condF (by simp +decide only [aop, abuiltin, aeval, aintBin, bin_int, aload_bump, SS, reduceIte, reduceCtorEq, f6, f1, d3, f0, lit1]; first | done | exact rfl) ?_))
          refine arl_app (K := fun g => s1.n ≤ g) (K' := fun _ => True) (xs := List.replicate k c) (ns := [c]) rfl rfl rfl (hO.up (by repeat (first | assumption | exact Keeps.refl _ _ | (refine Keeps.bumpR ?_ _) | (refine Keeps.put ?_ (by assumption) (by simp only [n_bump, n_put, n_touch, n_kill] at *; omega))))) (RdB.lit _ _ _ [_]) (by simp only [n_bump]; omega) (by simp; omega) ?_
          intro z s4 hO4 hn4 hK4
          have hzs := hO4.solid
          have hE4 : Ext s1 s4 := hK4 (fun _ => False) s1 hw1 (Keeps.trans hE (by repeat (first | assumption | exact Keeps.refl _ _ | (refine Keeps.bumpR ?_ _) | (refine Keeps.put ?_ (by assumption) (by simp only [n_bump, n_put, n_touch, n_kill] at *; omega))))) (by simp only [n_bump] at *; omega) (fun g hg => .inr hg)
          repeat (first | (refine aw_seq ?_) | (refine aw_reg0 (by simp only [SZ, Nat.reduceAdd]; exact rfl) ?_) | (refine aw_reg (by decide +kernel) (by simp only [SZ, Nat.reduceAdd]; exact rfl) ?_) | (refine aw_regS (by decide +kernel) (by simp only [SZ, Nat.reduceAdd]; exact rfl) ?_) | (refine arl_nil ?_) | (refine aw_skip ?_) | (refine aw_block ?_) | (refine aw_exit ?_) | (refine aw_ret ?_) | (refine arl_cons rfl rfl (by simp +decide only [aop, abuiltin, aeval, aintBin, bin_int, aload_bump, SS, reduceIte, reduceCtorEq, f6, hwk]; exact rfl) (by first | rfl | with_reducible assumption) rfl ?_) | (refine arl_none rfl rfl (by simp +decide only [aop, abuiltin, aeval, aintBin, bin_int, aload_bump, SS, reduceIte, reduceCtorEq, f6, hwk]; exact rfl) rfl rfl ?_) | (refine arl_off rfl rfl ?_) | (refine aw_condT (by simp +decide only [aop, abuiltin, aeval, aintBin, bin_int, aload_bump, SS, reduceIte, reduceCtorEq, f6, hwk]; first | done | exact rfl) ?_) | (refine aw_condF (by simp +decide only [aop, abuiltin, aeval, aintBin, bin_int, aload_bump, SS, reduceIte, reduceCtorEq, f6, hwk]; first | done | exact rfl) ?_))
          refine ⟨N - (k + 1), by omega, hE4.trans (by repeat (first | exact Keeps.refl _ _ | (refine Keeps.bumpR ?_ _))), k + 1, by omega, rfl, f0, f1, rfl, ?_⟩
          rw [List.replicate_succ']
          exact hO4.up (by repeat (first | exact Keeps.refl _ _ | (refine Keeps.bumpR ?_ _)))
        · have d3 : decide ((k : Int) < (N : Int)) = false := decide_eq_false (by omega)
          obtain rfl : k = N := by omega
          repeat (first | (refine aw_seq ?_) | (refine aw_reg0 (by simp only [SZ, Nat.reduceAdd]; exact rfl) ?_) | (refine aw_reg (by decide +kernel) (by simp only [SZ, Nat.reduceAdd]; exact rfl) ?_) | (refine aw_regS (by decide +kernel) (by simp only [SZ, Nat.reduceAdd]; exact rfl) ?_) | (refine arl_nil ?_) | (refine aw_skip ?_) | (refine aw_block ?_) | (refine aw_exit ?_) | (refine aw_ret ?_) | (refine arl_cons rfl rfl (by simp +decide only [aop, abuiltin, aeval, aintBin, bin_int, aload_bump, SS, reduceIte, reduceCtorEq, f6, f1, d3]; exact rfl) (by first | rfl | with_reducible assumption) rfl ?_) | (refine arl_none rfl rfl (by simp +decide only [aop, abuiltin, aeval, aintBin, bin_int, aload_bump, SS, reduceIte, reduceCtorEq, f6, f1, d3]; exact rfl) rfl rfl ?_) | (refine arl_off rfl rfl ?_) | (refine aw_condT (by simp +decide only [aop, abuiltin, aeval, aintBin, bin_int, aload_bump, SS, reduceIte, reduceCtorEq, f6, f1, d3]; first | done | exact rfl) ?_) | (refine aw_condF (by simp +decide only [aop, abuiltin, aeval, aintBin, bin_int, aload_bump, SS, reduceIte, reduceCtorEq, f6, f1, d3]; first | done | exact rfl) ?_))
          exact ⟨rfl, hE.trans (by repeat (first | exact Keeps.refl _ _ | (refine Keeps.bumpR ?_ _))), f0, f1, hO.up (by repeat (first | exact Keeps.refl _ _ | (refine Keeps.bumpR ?_ _)))⟩
      · exact ⟨(by repeat (first | assumption | exact Keeps.refl _ _ | (refine Keeps.bumpR ?_ _) | (refine Keeps.put ?_ (by assumption) (by simp only [n_bump, n_put, n_touch, n_kill] at *; omega)))), 0, by omega, rfl, rfl, rfl, rfl, .inr ⟨_, _, rfl, get_put _ _, by simp only [n_bump]; omega⟩⟩
      rintro e2 fr2 s2 ⟨hw2, hn2, rfl, hE2, f0, f1, hO2⟩
      obtain ⟨bv, f5⟩ : ∃ x, fr2 5 = x := ⟨_, rfl⟩
      rw [f5] at hO2
      have hbs := hO2.solid
      repeat (first | (refine aw_seq ?_) | (refine aw_reg0 (by simp only [SZ, Nat.reduceAdd]; exact rfl) ?_) | (refine aw_reg (by decide +kernel) (by simp only [SZ, Nat.reduceAdd]; exact rfl) ?_) | (refine aw_regS (by decide +kernel) (by simp only [SZ, Nat.reduceAdd]; exact rfl) ?_) | (refine arl_nil ?_) | (refine aw_skip ?_) | (refine aw_block ?_) | (refine aw_exit ?_) | (refine aw_ret ?_) | (refine arl_cons rfl rfl (by simp +decide only [aop, abuiltin, aeval, aintBin, bin_int, aload_bump, SS, reduceIte, reduceCtorEq, f5]; exact rfl) (by first | rfl | with_reducible assumption) rfl ?_) | (refine arl_none rfl rfl (by simp +decide only [aop, abuiltin, aeval, aintBin, bin_int, aload_bump, SS, reduceIte, reduceCtorEq, f5]; exact rfl) rfl rfl ?_) | (refine arl_off rfl rfl ?_) | (refine aw_condT (by simp +decide only [aop, abuiltin, aeval, aintBin, bin_int, aload_bump, SS, reduceIte, reduceCtorEq, f5]; first | done | exact rfl) ?_) | (refine aw_condF (by simp +decide only [aop, abuiltin, aeval, aintBin, bin_int, aload_bump, SS, reduceIte, reduceCtorEq, f5]; first | done | exact rfl) ?_))
      refine arl_call rfl rfl rfl rfl rfl rfl ((tokens_ok (by repeat (first | assumption | (refine WF.bump ?_ _))) 1 (hO2.rd.up (by repeat (first | exact Keeps.refl _ _ | (refine Keeps.bumpR ?_ _)))) (by simp; omega)).wf (by repeat (first | assumption | (refine WF.bump ?_ _) | (refine WF.put ?_ (by simp only [n_bump, n_put, n_touch, n_kill] at *; omega) (by simp only [n_bump, n_put, n_touch, n_kill] at *; omega)))) |>.mono ?_)
      rintro r s3 ⟨hw3, hn3, hE3, x, L, rfl, hxs, hX, hL, hLd⟩
      refine ⟨by first | rfl | with_reducible assumption, ?_⟩
      replace hE3 : Ext s2 s3 := Keeps.trans (by repeat (first | assumption | exact Keeps.refl _ _ | (refine Keeps.bumpR ?_ _) | (refine Keeps.put ?_ (by assumption) (by simp only [n_bump, n_put, n_touch, n_kill] at *; omega)))) hE3
      have hN3 := hE3.n
      have hts : rtoks (List.replicate N c) 1 = (0, ([c], 0, 0) :: (cps N (N - 1) ++ pcs (List.replicate (lft N (N - 1)) c))) := by
        unfold rtoks
        rw [if_neg (by simp; omega), List.length_replicate, gtok_rep c N (by omega)]
      rw [hts] at hX ⊢
      simp only at hX ⊢
      have hR := (oTok_rd hX).rd
      have htl := gtok_len (List.replicate N c) (min 1 32)
      unfold gtok at htl
      rw [List.length_replicate, gtok_rep c N (by omega)] at htl
      obtain ⟨ts, hteq⟩ : ∃ ts, ([c], (0 : Int), (0 : Int)) :: (cps N (N - 1) ++ pcs (List.replicate (lft N (N - 1)) c)) = ts := ⟨_, rfl⟩
      rw [hteq] at hR htl
      have hlx := RdE.len hR TTK
      have ht2 : 2 ≤ ts.length := by
        obtain ⟨q, rfl⟩ : ∃ q, N = q + 1 := ⟨N - 1, by omega⟩
        rw [← hteq, cps, if_neg (by omega)]
        simp
      have ht0 : ts[0]'(by omega) = ([c], 0, 0) := by subst hteq; rfl
      obtain ⟨i, off, c', b1, b2, b3, b4, b5, b6⟩ := tk_cells hR 0 (by omega)
      rw [ht0] at b5
      replace b1 : aindexAddr Try.prog 25 x (i64 0) = some (.ptr i off) := b1
      have hlc := b5.len
      obtain ⟨p, z1, z2, z3⟩ := b5.at .i64 0 (by omega) (by simp)
      replace z3 : aload Try.prog s3 5 p = some (u8 c) := z3
      have q1 : ((0 : Int) != 0) = false := by decide
      have q2 : decide ((ts.length : Int) < 2) = false := decide_eq_false (by omega)
      have q3 : ((([c] : List Int).length : Int) != 1) = false := by simp
      have q4 : (c != c) = false := by simp
      have hwN : IntKind.i64.wrap ((N : Int) - 1) = ((N - 1 : Nat) : Int) := by rw [wrap64_of (by omega) (by omega)]; omega
      repeat (first | (refine aw_seq ?_) | (refine aw_reg0 (by simp only [SZ, Nat.reduceAdd]; exact rfl) ?_) | (refine aw_reg (by decide +kernel) (by simp only [SZ, Nat.reduceAdd]; exact rfl) ?_) | (refine aw_regS (by decide +kernel) (by simp only [SZ, Nat.reduceAdd]; exact rfl) ?_) | (refine arl_nil ?_) | (refine aw_skip ?_) | (refine aw_block ?_) | (refine aw_exit ?_) | (refine aw_ret ?_) | (refine arl_cons rfl rfl (by simp +decide only [aop, abuiltin, aeval, aintBin, bin_int, aload_bump, SS, reduceIte, reduceCtorEq, q1, hlx, q2, b1, faT0, b2, hlc, q3, z1, z3, f0, q4, f1, hwN]; exact rfl) (by first | rfl | with_reducible assumption) rfl ?_) | (refine arl_none rfl rfl (by simp +decide only [aop, abuiltin, aeval, aintBin, bin_int, aload_bump, SS, reduceIte, reduceCtorEq, q1, hlx, q2, b1, faT0, b2, hlc, q3, z1, z3, f0, q4, f1, hwN]; exact rfl) rfl rfl ?_) | (refine arl_off rfl rfl ?_) | (refine aw_condT (by simp +decide only [aop, abuiltin, aeval, aintBin, bin_int, aload_bump, SS, reduceIte, reduceCtorEq, q1, hlx, q2, b1, faT0, b2, hlc, q3, z1, z3, f0, q4, f1, hwN]; first | done | exact rfl) ?_) | (refine aw_condF (by simp +decide only [aop, abuiltin, aeval, aintBin, bin_int, aload_bump, SS, reduceIte, reduceCtorEq, q1, hlx, q2, b1, faT0, b2, hlc, q3, z1, z3, f0, q4, f1, hwN]; first | done | exact rfl) ?_))
      refine AW.mono (AW.wf (aw_rounds_wf (fun m fr s => Ext s3 s ∧ ∃ (k left f : Nat) (pre : List Tok), left ≤ f ∧ pre.length = k ∧ ts = ([c], 0, 0) :: (pre ++ (cps f left ++ pcs (List.replicate (lft f left) c))) ∧ m = left ∧ fr 7 = x ∧ fr 9 = i64 k ∧ fr 10 = i64 left ∧ left ≤ 32768)
        (Q := fun e fr s => e = .exit 2 ∧ Ext s3 s ∧ ∃ (k left : Nat) (pre : List Tok), pre.length = k ∧ left < 4 ∧ ts = ([c], 0, 0) :: (pre ++ (if left = 0 then [] else [(List.replicate left c, 0, 0)])) ∧ fr 7 = x ∧ fr 9 = i64 k ∧ fr 10 = i64 left) ?_ (N - 1) _ _ (by repeat (first | assumption | (refine WF.bump ?_ _))) ?_) (by repeat (first | assumption | (refine WF.bump ?_ _)))) ?_
      · rintro m fr s hws ⟨hE, k, left, f, pre, hf, hpre, hte, hml, f7, f9, f10, hll⟩
        obtain rfl : left = m := hml.symm
        have hkl : k + 1 ≤ ts.length := by rw [hte]; simp; omega
        by_cases h4 : 4 ≤ left
        · obtain ⟨f', rfl⟩ : ∃ q, f = q + 1 := ⟨f - 1, by omega⟩
          rw [cps, lft, if_neg (by omega), if_neg (by omega)] at hte
          have d3 : decide ((left : Int) ≥ 4) = true := decide_eq_true (by omega)
          have hk1 : k + 1 < ts.length := by rw [hte]; simp; omega
          have htk : ts[k + 1] = ([], 1, ((min left 131 : Nat) : Int)) := by
            subst hpre
            simp only [hte, List.getElem_cons_succ]
            rw [List.getElem_append_right (Nat.le_refl _)]
            simp
          obtain ⟨i', off', c2, b1, b2, b3, b4, b5, b6⟩ := tk_cells (hR.up hE) (k + 1) hk1
          rw [htk] at b3 b4
          simp only at b3 b4
          have hwk := wrap_succ (k := k) (by omega)
          have d4 : decide (((k + 1 : Nat) : Int) ≥ (ts.length : Int)) = false := decide_eq_false (by omega)
          have hmin : amin [i64 (left : Int), i64 131] = some (i64 (min left 131 : Nat)) := amin_nat left 131
          have q5 : (((min left 131 : Nat) : Int) != ((min left 131 : Nat) : Int)) = false := by simp
          have q6 : ((1 : Int) != 1) = false := by decide
          obtain ⟨mn, hmn⟩ : ∃ mn, min left 131 = mn := ⟨_, rfl⟩
          rw [hmn] at b4 hmin q5
          have hwm : IntKind.i64.wrap ((left : Int) - (mn : Int)) = ((left - mn : Nat) : Int) := by rw [wrap64_of (by omega) (by omega)]; omega
          repeat (first | (refine aw_seq ?_) | (refine aw_reg0 (by simp only [SZ, Nat.reduceAdd]; exact rfl) ?_) | (refine aw_reg (by decide +kernel) (by simp only [SZ, Nat.reduceAdd]; exact rfl) ?_) | (refine aw_regS (by decide +kernel) (by simp only [SZ, Nat.reduceAdd]; exact rfl) ?_) | (refine arl_nil ?_) | (refine aw_skip ?_) | (refine aw_block ?_) | (refine aw_exit ?_) | (refine aw_ret ?_) | (refine arl_cons rfl rfl (by simp +decide only [aop, abuiltin, aeval, aintBin, bin_int, aload_bump, SS, reduceIte, reduceCtorEq, f10, d3, f9, hwk, f7, hlx, d4, b1, faT1, faT2, b3, b4, q6, hmin, q5, hwm]; exact rfl) (by first | rfl | with_reducible assumption) rfl ?_) | (refine arl_none rfl rfl (by simp +decide only [aop, abuiltin, aeval, aintBin, bin_int, aload_bump, SS, reduceIte, reduceCtorEq, f10, d3, f9, hwk, f7, hlx, d4, b1, faT1, faT2, b3, b4, q6, hmin, q5, hwm]; exact rfl) rfl rfl ?_) | (refine arl_off rfl rfl ?_) | (refine aw_condT (by simp +decide only [aop, abuiltin, aeval, aintBin, bin_int, aload_bump, SS, reduceIte, reduceCtorEq, f10, d3, f9, hwk, f7, hlx, d4, b1, faT1, faT2, b3, b4, q6, hmin, q5, hwm]; first | done | exact rfl) ?_) | (refine aw_condF (by simp +decide only [aop, abuiltin, aeval, aintBin, bin_int, aload_bump, SS, reduceIte, reduceCtorEq, f10, d3, f9, hwk, f7, hlx, d4, b1, faT1, faT2, b3, b4, q6, hmin, q5, hwm]; first | done | exact rfl) ?_))
          refine ⟨left - mn, by omega, hE.trans (by repeat (first | exact Keeps.refl _ _ | (refine Keeps.bumpR ?_ _))), k + 1, left - mn, f', pre ++ [([], 1, ((min left 131 : Nat) : Int))], by omega, by simp [hpre], ?_, rfl, f7, rfl, rfl, by omega⟩
          rw [hte, hmn]
          simp
        · have d3 : decide ((left : Int) ≥ 4) = false := decide_eq_false (by omega)
          have hz : cps f left = [] ∧ lft f left = left := by
            cases f with
            | zero => exact ⟨rfl, rfl⟩
            | succ f => exact ⟨by rw [cps, if_pos (by omega)], by rw [lft, if_pos (by omega)]⟩
          rw [hz.1, hz.2, List.nil_append, pcs_small c left (by omega)] at hte
          repeat (first | (refine aw_seq ?_) | (refine aw_reg0 (by simp only [SZ, Nat.reduceAdd]; exact rfl) ?_) | (refine aw_reg (by decide +kernel) (by simp only [SZ, Nat.reduceAdd]; exact rfl) ?_) | (refine aw_regS (by decide +kernel) (by simp only [SZ, Nat.reduceAdd]; exact rfl) ?_) | (refine arl_nil ?_) | (refine aw_skip ?_) | (refine aw_block ?_) | (refine aw_exit ?_) | (refine aw_ret ?_) | (refine arl_cons rfl rfl (by simp +decide only [aop, abuiltin, aeval, aintBin, bin_int, aload_bump, SS, reduceIte, reduceCtorEq, f10, d3]; exact rfl) (by first | rfl | with_reducible assumption) rfl ?_) | (refine arl_none rfl rfl (by simp +decide only [aop, abuiltin, aeval, aintBin, bin_int, aload_bump, SS, reduceIte, reduceCtorEq, f10, d3]; exact rfl) rfl rfl ?_) | (refine arl_off rfl rfl ?_) | (refine aw_condT (by simp +decide only [aop, abuiltin, aeval, aintBin, bin_int, aload_bump, SS, reduceIte, reduceCtorEq, f10, d3]; first | done | exact rfl) ?_) | (refine aw_condF (by simp +decide only [aop, abuiltin, aeval, aintBin, bin_int, aload_bump, SS, reduceIte, reduceCtorEq, f10, d3]; first | done | exact rfl) ?_))
          exact ⟨rfl, hE.trans (by repeat (first | exact Keeps.refl _ _ | (refine Keeps.bumpR ?_ _))), k, left, pre, hpre, by omega, hte, f7, f9, f10⟩
      · exact ⟨(by repeat (first | exact Keeps.refl _ _ | (refine Keeps.bumpR ?_ _))), 0, N - 1, N, [], by omega, rfl, hteq.symm, rfl, rfl, rfl, rfl, by omega⟩
      rintro e4 fr4 s4 ⟨hw4, hn4, rfl, hE4, k, left, pre, hpre, hl4, hte, f7, f9, f10⟩
      have hkl : k + 1 ≤ ts.length := by rw [hte]; simp; omega
      have hwk1 : IntKind.i64.wrap ((k : Int) + 1) = ((k + 1 : Nat) : Int) := wrap_succ (by omega)
      have hwk2 : IntKind.i64.wrap ((k : Int) + 2) = ((k + 2 : Nat) : Int) := by rw [wrap64_of (by omega) (by omega)]; omega
      by_cases h0 : left = 0
      · have q7 : ((left : Int) == 0) = true := by simp [h0]
        rw [if_pos h0] at hte
        have hlen : ts.length = k + 1 := by rw [hte]; simp [hpre]
        have q8 : ((ts.length : Int) == ((k + 1 : Nat) : Int)) = true := by simp [hlen]
        repeat (first | (refine aw_seq ?_) | (refine aw_reg0 (by simp only [SZ, Nat.reduceAdd]; exact rfl) ?_) | (refine aw_reg (by decide +kernel) (by simp only [SZ, Nat.reduceAdd]; exact rfl) ?_) | (refine aw_regS (by decide +kernel) (by simp only [SZ, Nat.reduceAdd]; exact rfl) ?_) | (refine arl_nil ?_) | (refine aw_skip ?_) | (refine aw_block ?_) | (refine aw_exit ?_) | (refine aw_ret ?_) | (refine arl_cons rfl rfl (by simp +decide only [aop, abuiltin, aeval, aintBin, bin_int, aload_bump, SS, reduceIte, reduceCtorEq, f10, q7, f7, hlx, f9, hwk1, q8]; exact rfl) (by first | rfl | with_reducible assumption) rfl ?_) | (refine arl_none rfl rfl (by simp +decide only [aop, abuiltin, aeval, aintBin, bin_int, aload_bump, SS, reduceIte, reduceCtorEq, f10, q7, f7, hlx, f9, hwk1, q8]; exact rfl) rfl rfl ?_) | (refine arl_off rfl rfl ?_) | (refine aw_condT (by simp +decide only [aop, abuiltin, aeval, aintBin, bin_int, aload_bump, SS, reduceIte, reduceCtorEq, f10, q7, f7, hlx, f9, hwk1, q8]; first | done | exact rfl) ?_) | (refine aw_condF (by simp +decide only [aop, abuiltin, aeval, aintBin, bin_int, aload_bump, SS, reduceIte, reduceCtorEq, f10, q7, f7, hlx, f9, hwk1, q8]; first | done | exact rfl) ?_))
        exact ⟨.inr rfl, _, rfl, rfl⟩
      · have q7 : ((left : Int) == 0) = false := by simp [h0]
        rw [if_neg h0] at hte
        have hlen : ts.length = k + 2 := by rw [hte]; simp [hpre]
        have q8 : ((ts.length : Int) == ((k + 2 : Nat) : Int)) = true := by simp [hlen]
        have htk : ts[k + 1]'(by omega) = (List.replicate left c, 0, 0) := by
          subst hpre
          simp only [hte, List.getElem_cons_succ]
          rw [List.getElem_append_right (Nat.le_refl _)]
          simp
        obtain ⟨i', off', c2, b1, b2, b3, b4, b5, b6⟩ := tk_cells (hR.up hE4) (k + 1) (by omega)
        rw [htk] at b5
        have hlc2 := b5.len
        rw [List.length_replicate] at hlc2
        have q9 : ((left : Int) == (left : Int)) = true := by simp
        repeat (first | (refine aw_seq ?_) | (refine aw_reg0 (by simp only [SZ, Nat.reduceAdd]; exact rfl) ?_) | (refine aw_reg (by decide +kernel) (by simp only [SZ, Nat.reduceAdd]; exact rfl) ?_) | (refine aw_regS (by decide +kernel) (by simp only [SZ, Nat.reduceAdd]; exact rfl) ?_) | (refine arl_nil ?_) | (refine aw_skip ?_) | (refine aw_block ?_) | (refine aw_exit ?_) | (refine aw_ret ?_) | (refine arl_cons rfl rfl (by simp +decide only [aop, abuiltin, aeval, aintBin, bin_int, aload_bump, SS, reduceIte, reduceCtorEq, f10, q7, f7, hlx, f9, hwk2, q8, hwk1, b1, faT0, b2, hlc2, q9]; exact rfl) (by first | rfl | with_reducible assumption) rfl ?_) | (refine arl_none rfl rfl (by simp +decide only [aop, abuiltin, aeval, aintBin, bin_int, aload_bump, SS, reduceIte, reduceCtorEq, f10, q7, f7, hlx, f9, hwk2, q8, hwk1, b1, faT0, b2, hlc2, q9]; exact rfl) rfl rfl ?_) | (refine arl_off rfl rfl ?_) | (refine aw_condT (by simp +decide only [aop, abuiltin, aeval, aintBin, bin_int, aload_bump, SS, reduceIte, reduceCtorEq, f10, q7, f7, hlx, f9, hwk2, q8, hwk1, b1, faT0, b2, hlc2, q9]; first | done | exact rfl) ?_) | (refine aw_condF (by simp +decide only [aop, abuiltin, aeval, aintBin, bin_int, aload_bump, SS, reduceIte, reduceCtorEq, f10, q7, f7, hlx, f9, hwk2, q8, hwk1, b1, faT0, b2, hlc2, q9]; first | done | exact rfl) ?_))
        exact ⟨.inr rfl, _, rfl, rfl⟩
theorem PressRuns_small {st : St} (hw : WF st) (c : Int) (gc : (Lit.int .u8 c).wf = true) (n : Int) (gn : (Lit.int .i64 n).wf = true) (hb : 1 + 1 ≤ 1048576) :
    ACalls Try.prog 8 [u8 c, i64 n] st (fun r s => r = .pl (.bool true)) :=
  pruns_ok hw c n (wfu8 gc) (wfi64 gn)
end Go.Proofs.Ytoohookgimkhbaa.Ra
