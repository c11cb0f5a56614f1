/- Apart: what is one's own, twice. -/
import Derived.Test.YtoccmjhgmoandaaSc
namespace Go.Proofs.Ytoccmjhgmoandaa.Ra
open Go Go.RowKit
set_option linter.unusedVariables false
set_option linter.unusedSimpArgs false
set_option maxRecDepth 10000
/-- The marks that are put behind. -/
def ups (d : Int) (n : Nat) : List Int := (List.range n).map fun i : Nat => ((i : Int) + d) % 256
theorem ups_succ (d : Int) (n : Nat) : ups d (n + 1) = ups d n ++ [((n : Int) + d) % 256] := by simp [ups, List.range_succ]
theorem ups_len (d : Int) (n : Nat) : (ups d n).length = n := by simp [ups]
theorem ups_get (d : Int) (n k : Nat) (h : k < n) : (ups d n)[k]? = some (((k : Int) + d) % 256) := by simp [ups, h]
theorem slice_sl {P : Program} {t e : TypeId} {s i off n es h : Nat} (ht : P.underlying t = some (.slice e)) (hs : szOf P e = some s) (hh : h ≤ n) (he : es = 0 ∨ es = s) : aslice P t (.sl i off n es) none (some (i64 h)) = some (.sl i off h es) := by
  have h1 : (0 : Int) ≤ (h : Int) ∧ (h : Int) ≤ (n : Int) := by omega
  simp [aslice, ht, hs, ahigh, alow, h1, he]
theorem OwB.cut {st : St} {K : Nat → Prop} {v : AV} {xs ys : List Int} (h : OwB st K v (xs ++ ys)) : ∃ v', aslice Try.prog 26 v none (some (i64 xs.length)) = some v' ∧ RdB st K v' xs := by
  rcases h with ⟨h1, rfl⟩ | ⟨i, g, rfl, h2, h3⟩
  · obtain ⟨rfl, rfl⟩ := List.append_eq_nil_iff.1 h1
    refine ⟨.pl (.slice none 0 0), ?_, .inl ⟨rfl, .inl ⟨_, _, rfl⟩⟩⟩
    simp [aslice, uB, sz5, ahigh, alow]
  · exact ⟨_, slice_sl uB sz5 (by simp) (.inr rfl), .inr ⟨i, 0, true, _, rfl, h2, h3, by simp, fun j x hx => by
      obtain ⟨hj, hx⟩ := List.getElem?_eq_some_iff.1 hx
      rw [List.map_append, Nat.zero_add, List.getElem?_append_left (by simpa using hj)]
      simp [hj, hx]⟩⟩
theorem apart_ok {st : St} (hw : WF st) {K Kb Kc : Nat → Prop} {a b c : AV} {xs : List Int} (ha : OwB st K a xs) (hb : OwB st Kb b xs) (hc : RdB st Kc c xs) (dab : ∀ g, K g → ¬ Kb g) (dca : ∀ g, Kc g → ¬ K g) (dcb : ∀ g, Kc g → ¬ Kb g) (hl : xs.length ≤ 140737488350000) :
    ACalls Try.prog 28 [a, b, c] st (fun r s => Keeps (fun g => K g ∨ Kb g) st s ∧ r = .pl (.bool true)) := by
  replace ha := ha.lt hw
  replace hb := hb.lt hw
  replace hc := hc.lt hw
  have has := ha.solid
  have hbs := hb.solid
  have hcs := hc.solid
  refine acalls_of Try.func28 rfl (by kernel_rfl) (by simp [has, hbs, hcs]) ?_
  repeat (first | (refine aw_seq ?_) | (refine aw_reg0 (by simp only [SZ, Nat.reduceAdd]; exact rfl) ?_) | (refine aw_reg (by decide +kernel) (by simp only [SZ, Nat.reduceAdd]; exact rfl) ?_) | (refine aw_regS (by decide +kernel) (by simp only [SZ, Nat.reduceAdd]; exact rfl) ?_) | (refine arl_nil ?_) | (refine aw_skip ?_) | (refine aw_block ?_) | (refine aw_exit ?_) | (refine aw_ret ?_) | (refine arl_cons rfl rfl (by simp +decide only [aop, abuiltin, aeval, aintBin, bin_int, aload_bump, SS, reduceIte, reduceCtorEq]; exact rfl) (by first | rfl | with_reducible assumption) rfl ?_) | (refine arl_none rfl rfl (by simp +decide only [aop, abuiltin, aeval, aintBin, bin_int, aload_bump, SS, reduceIte, reduceCtorEq]; exact rfl) rfl rfl ?_) | (refine arl_off rfl rfl ?_))
  refine arl_call rfl rfl rfl rfl rfl rfl ((same_self (by repeat (first | assumption | (refine WF.bump ?_ _) | (refine WF.put ?_ (by simp only [n_bump, n_put, n_touch, n_kill] at *; omega) (by simp only [n_bump, n_put, n_touch, n_kill] at *; omega)))) (ha.rd.keep (G := fun _ => False) (by repeat (first | assumption | exact Keeps.refl _ _ | (refine Keeps.bumpR ?_ _) | (refine Keeps.put ?_ (by assumption) (by simp only [n_bump, n_put, n_touch, n_kill] at *; omega)))) (fun _ _ h => h)) (hc.keep (G := fun _ => False) (by repeat (first | assumption | exact Keeps.refl _ _ | (refine Keeps.bumpR ?_ _) | (refine Keeps.put ?_ (by assumption) (by simp only [n_bump, n_put, n_touch, n_kill] at *; omega)))) (fun _ _ h => h)) (by omega)).wf (by repeat (first | assumption | (refine WF.bump ?_ _) | (refine WF.put ?_ (by simp only [n_bump, n_put, n_touch, n_kill] at *; omega) (by simp only [n_bump, n_put, n_touch, n_kill] at *; omega)))) |>.mono ?_)
  rintro r s1 ⟨hw1, hn1, hE1, rfl⟩
  refine ⟨rfl, ?_⟩
  replace hE1 : Ext st s1 := Keeps.trans (by repeat (first | assumption | exact Keeps.refl _ _ | (refine Keeps.bumpR ?_ _) | (refine Keeps.put ?_ (by assumption) (by simp only [n_bump, n_put, n_touch, n_kill] at *; omega)))) hE1
  repeat (first | (refine aw_seq ?_) | (refine aw_reg0 (by simp only [SZ, Nat.reduceAdd]; exact rfl) ?_) | (refine aw_reg (by decide +kernel) (by simp only [SZ, Nat.reduceAdd]; exact rfl) ?_) | (refine aw_regS (by decide +kernel) (by simp only [SZ, Nat.reduceAdd]; exact rfl) ?_) | (refine arl_nil ?_) | (refine aw_skip ?_) | (refine aw_block ?_) | (refine aw_exit ?_) | (refine aw_ret ?_) | (refine arl_cons rfl rfl (by simp +decide only [aop, abuiltin, aeval, aintBin, bin_int, aload_bump, SS, reduceIte, reduceCtorEq]; exact rfl) (by first | rfl | with_reducible assumption) rfl ?_) | (refine arl_none rfl rfl (by simp +decide only [aop, abuiltin, aeval, aintBin, bin_int, aload_bump, SS, reduceIte, reduceCtorEq]; exact rfl) rfl rfl ?_) | (refine arl_off rfl rfl ?_))
  refine arl_call rfl rfl rfl rfl rfl rfl ((same_self (by repeat (first | assumption | (refine WF.bump ?_ _) | (refine WF.put ?_ (by simp only [n_bump, n_put, n_touch, n_kill] at *; omega) (by simp only [n_bump, n_put, n_touch, n_kill] at *; omega)))) (hb.rd.keep hE1 (fun _ _ h => h)) (hc.keep hE1 (fun _ _ h => h)) (by omega)).wf (by repeat (first | assumption | (refine WF.bump ?_ _) | (refine WF.put ?_ (by simp only [n_bump, n_put, n_touch, n_kill] at *; omega) (by simp only [n_bump, n_put, n_touch, n_kill] at *; omega)))) |>.mono ?_)
  rintro r s2 ⟨hw2, hn2, hE2, rfl⟩
  refine ⟨rfl, ?_⟩
  replace hE2 : Ext st s2 := Keeps.trans hE1 hE2
  repeat (first | (refine aw_seq ?_) | (refine aw_reg0 (by simp only [SZ, Nat.reduceAdd]; exact rfl) ?_) | (refine aw_reg (by decide +kernel) (by simp only [SZ, Nat.reduceAdd]; exact rfl) ?_) | (refine aw_regS (by decide +kernel) (by simp only [SZ, Nat.reduceAdd]; exact rfl) ?_) | (refine arl_nil ?_) | (refine aw_skip ?_) | (refine aw_block ?_) | (refine aw_exit ?_) | (refine aw_ret ?_) | (refine arl_cons rfl rfl (by simp +decide only [aop, abuiltin, aeval, aintBin, bin_int, aload_bump, SS, reduceIte, reduceCtorEq]; exact rfl) (by first | rfl | with_reducible assumption) rfl ?_) | (refine arl_none rfl rfl (by simp +decide only [aop, abuiltin, aeval, aintBin, bin_int, aload_bump, SS, reduceIte, reduceCtorEq]; exact rfl) rfl rfl ?_) | (refine arl_off rfl rfl ?_))
  (change AW _ _ _ _ _)
  refine aw_cond (by simp +decide only [aop, abuiltin, aeval, aintBin, bin_int, aload_bump, SS, reduceIte, reduceCtorEq]; exact rfl) (fun hq => ?_) (fun hq => ?_)
  · cases hq
  clear hq
  repeat (first | (refine aw_seq ?_) | (refine aw_reg0 (by simp only [SZ, Nat.reduceAdd]; exact rfl) ?_) | (refine aw_reg (by decide +kernel) (by simp only [SZ, Nat.reduceAdd]; exact rfl) ?_) | (refine aw_regS (by decide +kernel) (by simp only [SZ, Nat.reduceAdd]; exact rfl) ?_) | (refine arl_nil ?_) | (refine aw_skip ?_) | (refine aw_block ?_) | (refine aw_exit ?_) | (refine aw_ret ?_) | (refine arl_cons rfl rfl (by simp +decide only [aop, abuiltin, aeval, aintBin, bin_int, aload_bump, SS, reduceIte, reduceCtorEq]; exact rfl) (by first | rfl | with_reducible assumption) rfl ?_) | (refine arl_none rfl rfl (by simp +decide only [aop, abuiltin, aeval, aintBin, bin_int, aload_bump, SS, reduceIte, reduceCtorEq]; exact rfl) rfl rfl ?_) | (refine arl_off rfl rfl ?_))
  refine arl_call rfl rfl rfl rfl rfl rfl ((spoil_ok (by repeat (first | assumption | (refine WF.bump ?_ _) | (refine WF.put ?_ (by simp only [n_bump, n_put, n_touch, n_kill] at *; omega) (by simp only [n_bump, n_put, n_touch, n_kill] at *; omega)))) (ha.keep (G := fun _ => False) (by repeat (first | assumption | exact Keeps.refl _ _ | (refine Keeps.bumpR ?_ _) | (refine Keeps.put ?_ (by assumption) (by simp only [n_bump, n_put, n_touch, n_kill] at *; omega)))) (fun _ _ h => h)) (by omega)).wf (by repeat (first | assumption | (refine WF.bump ?_ _) | (refine WF.put ?_ (by simp only [n_bump, n_put, n_touch, n_kill] at *; omega) (by simp only [n_bump, n_put, n_touch, n_kill] at *; omega)))) |>.mono ?_)
  rintro r s3 ⟨hw3, hn3, hE3, hrs, hA, -⟩
  refine ⟨hrs, ?_⟩
  replace hE3 : Keeps (fun g => K g ∧ g < st.n) st s3 := Keeps.trans (Keeps.mono (G := fun _ => False) (by repeat (first | assumption | exact Keeps.refl _ _ | (refine Keeps.bumpR ?_ _) | (refine Keeps.put ?_ (by assumption) (by simp only [n_bump, n_put, n_touch, n_kill] at *; omega)))) (fun _ h => h.elim)) hE3
  have hE3n := hE3.n
  repeat (first | (refine aw_seq ?_) | (refine aw_reg0 (by simp only [SZ, Nat.reduceAdd]; exact rfl) ?_) | (refine aw_reg (by decide +kernel) (by simp only [SZ, Nat.reduceAdd]; exact rfl) ?_) | (refine aw_regS (by decide +kernel) (by simp only [SZ, Nat.reduceAdd]; exact rfl) ?_) | (refine arl_nil ?_) | (refine aw_skip ?_) | (refine aw_block ?_) | (refine aw_exit ?_) | (refine aw_ret ?_) | (refine arl_cons rfl rfl (by simp +decide only [aop, abuiltin, aeval, aintBin, bin_int, aload_bump, SS, reduceIte, reduceCtorEq]; exact rfl) (by first | rfl | with_reducible assumption) rfl ?_) | (refine arl_none rfl rfl (by simp +decide only [aop, abuiltin, aeval, aintBin, bin_int, aload_bump, SS, reduceIte, reduceCtorEq]; exact rfl) rfl rfl ?_) | (refine arl_off rfl rfl ?_))
  refine AW.mono (AW.wf (aw_rounds_wf (fun n fr s => Keeps (fun g => (K g ∧ g < st.n) ∨ s3.n ≤ g) s3 s ∧ Short xs.length s3 s ∧ ∃ (k : Nat), k ≤ 80 ∧ n = 80 - k ∧ fr 0 = a ∧ fr 1 = b ∧ fr 2 = c ∧ fr 8 = i64 k ∧ OwB s (fun g => (K g ∧ g < st.n) ∨ s3.n ≤ g) (fr 7) (xs.map turn ++ ups 1 k)) (Q := fun e fr s => e = .exit 0 ∧ Keeps (fun g => (K g ∧ g < st.n) ∨ s3.n ≤ g) s3 s ∧ Short xs.length s3 s ∧ fr 0 = a ∧ fr 1 = b ∧ fr 2 = c ∧ OwB s (fun g => (K g ∧ g < st.n) ∨ s3.n ≤ g) (fr 7) (xs.map turn ++ ups 1 80)) ?_ 80 _ _ (by repeat (first | assumption | (refine WF.bump ?_ _) | (refine WF.put ?_ (by simp only [n_bump, n_put, n_touch, n_kill] at *; omega) (by simp only [n_bump, n_put, n_touch, n_kill] at *; omega)))) ?_) (by repeat (first | assumption | (refine WF.bump ?_ _) | (refine WF.put ?_ (by simp only [n_bump, n_put, n_touch, n_kill] at *; omega) (by simp only [n_bump, n_put, n_touch, n_kill] at *; omega))))) ?_
  · rintro n fr s hws ⟨hE, hS, k, hk, rfl, f0, f1, f2, f8, hO⟩
    have hos := hO.solid
    have hEn := hE.n
    repeat (first | (refine aw_seq ?_) | (refine aw_reg0 (by simp only [SZ, Nat.reduceAdd]; exact rfl) ?_) | (refine aw_reg (by decide +kernel) (by simp only [SZ, Nat.reduceAdd]; exact rfl) ?_) | (refine aw_regS (by decide +kernel) (by simp only [SZ, Nat.reduceAdd]; exact rfl) ?_) | (refine arl_nil ?_) | (refine aw_skip ?_) | (refine aw_block ?_) | (refine aw_exit ?_) | (refine aw_ret ?_) | (refine arl_cons rfl rfl (by simp +decide only [aop, abuiltin, aeval, aintBin, bin_int, aload_bump, SS, reduceIte, reduceCtorEq, f8]; exact rfl) (by first | rfl | with_reducible assumption) rfl ?_) | (refine arl_none rfl rfl (by simp +decide only [aop, abuiltin, aeval, aintBin, bin_int, aload_bump, SS, reduceIte, reduceCtorEq, f8]; exact rfl) rfl rfl ?_) | (refine arl_off rfl rfl ?_))
    (change AW _ _ _ _ _)
    refine aw_cond (by simp +decide only [aop, abuiltin, aeval, aintBin, bin_int, aload_bump, SS, reduceIte, reduceCtorEq]; exact rfl) (fun hc4 => ?_) (fun hc4 => ?_)
    · simp only [decide_eq_true_eq] at hc4
      have hk2 : k < 80 := by omega
      have hwi : IntKind.i64.wrap ((k : Int) + 1) = (k : Int) + 1 := wrap64_of (by omega) (by omega)
      have hwu : IntKind.u8.wrap ((k : Int) + 1) = ((k : Int) + 1) % 256 := IntKind.wrap_u8 _
      repeat (first | (refine aw_seq ?_) | (refine aw_reg0 (by simp only [SZ, Nat.reduceAdd]; exact rfl) ?_) | (refine aw_reg (by decide +kernel) (by simp only [SZ, Nat.reduceAdd]; exact rfl) ?_) | (refine aw_regS (by decide +kernel) (by simp only [SZ, Nat.reduceAdd]; exact rfl) ?_) | (refine arl_nil ?_) | (refine aw_skip ?_) | (refine aw_block ?_) | (refine aw_exit ?_) | (refine aw_ret ?_) | (refine arl_cons rfl rfl (by simp +decide only [aop, abuiltin, aeval, aintBin, bin_int, aload_bump, SS, reduceIte, reduceCtorEq, f8, hwi, conv_int Try.underlying3 Try.underlying5, hwu, lit1]; exact rfl) (by first | rfl | with_reducible assumption) rfl ?_) | (refine arl_none rfl rfl (by simp +decide only [aop, abuiltin, aeval, aintBin, bin_int, aload_bump, SS, reduceIte, reduceCtorEq, f8, hwi, conv_int Try.underlying3 Try.underlying5, hwu, lit1]; exact rfl) rfl rfl ?_) | (refine arl_off rfl rfl ?_))
      refine arl_appS (K := fun g => (K g ∧ g < st.n) ∨ s3.n ≤ g) (K' := fun _ => True) (xs := xs.map turn ++ ups 1 k) (ns := [((k : Int) + 1) % 256]) rfl rfl rfl (hO.keep (G := fun _ => False) (by repeat (first | assumption | exact Keeps.refl _ _ | (refine Keeps.bumpR ?_ _) | (refine Keeps.put ?_ (by assumption) (by simp only [n_bump, n_put, n_touch, n_kill] at *; omega)))) (fun _ _ h => h)) (RdB.lit _ _ _ [_]) (.inr (by simp only [n_bump, n_put, n_touch, n_kill] at *; omega)) (by simp [ups_len]; omega) ?_
      intro y s4 hO2 hn2 hK2 hS2
      have hys := hO2.solid
      have hE4 := hK2 (fun g => (K g ∧ g < st.n) ∨ s3.n ≤ g) s3 hw3 (by repeat (first | assumption | exact Keeps.refl _ _ | (refine Keeps.bumpR ?_ _) | (refine Keeps.put ?_ (by assumption) (by simp only [n_bump, n_put, n_touch, n_kill] at *; omega)))) (by simp only [n_bump, n_put, n_touch, n_kill] at *; omega) (fun g hg => .inl hg)
      have hS4 := hS2 xs.length s3 hw3 (((hS.bump _).bump _).put hw3 (by simp only [n_bump, n_put, n_touch, n_kill] at *; omega)) (by simp only [n_bump, n_put, n_touch, n_kill] at *; omega) (by simp)
      repeat (first | (refine aw_seq ?_) | (refine aw_reg0 (by simp only [SZ, Nat.reduceAdd]; exact rfl) ?_) | (refine aw_reg (by decide +kernel) (by simp only [SZ, Nat.reduceAdd]; exact rfl) ?_) | (refine aw_regS (by decide +kernel) (by simp only [SZ, Nat.reduceAdd]; exact rfl) ?_) | (refine arl_nil ?_) | (refine aw_skip ?_) | (refine aw_block ?_) | (refine aw_exit ?_) | (refine aw_ret ?_) | (refine arl_cons rfl rfl (by simp +decide only [aop, abuiltin, aeval, aintBin, bin_int, aload_bump, SS, reduceIte, reduceCtorEq, f8]; exact rfl) (by first | rfl | with_reducible assumption) rfl ?_) | (refine arl_none rfl rfl (by simp +decide only [aop, abuiltin, aeval, aintBin, bin_int, aload_bump, SS, reduceIte, reduceCtorEq, f8]; exact rfl) rfl rfl ?_) | (refine arl_off rfl rfl ?_))
      refine ⟨80 - (k + 1), by omega, (by repeat (first | assumption | exact Keeps.refl _ _ | (refine Keeps.bumpR ?_ _) | (refine Keeps.put ?_ (by assumption) (by simp only [n_bump, n_put, n_touch, n_kill] at *; omega)))), hS4.bump _, k + 1, by omega, rfl, f0, f1, f2, ?_, ?_⟩
      · show AV.pl _ = _
        rw [hwi]; rfl
      · rw [ups_succ, ← List.append_assoc]; exact hO2.bump _
    · simp only [decide_eq_false_iff_not] at hc4
      repeat (first | (refine aw_seq ?_) | (refine aw_reg0 (by simp only [SZ, Nat.reduceAdd]; exact rfl) ?_) | (refine aw_reg (by decide +kernel) (by simp only [SZ, Nat.reduceAdd]; exact rfl) ?_) | (refine aw_regS (by decide +kernel) (by simp only [SZ, Nat.reduceAdd]; exact rfl) ?_) | (refine arl_nil ?_) | (refine aw_skip ?_) | (refine aw_block ?_) | (refine aw_exit ?_) | (refine aw_ret ?_) | (refine arl_cons rfl rfl (by simp +decide only [aop, abuiltin, aeval, aintBin, bin_int, aload_bump, SS, reduceIte, reduceCtorEq, f8]; exact rfl) (by first | rfl | with_reducible assumption) rfl ?_) | (refine arl_none rfl rfl (by simp +decide only [aop, abuiltin, aeval, aintBin, bin_int, aload_bump, SS, reduceIte, reduceCtorEq, f8]; exact rfl) rfl rfl ?_) | (refine arl_off rfl rfl ?_))
      obtain rfl : k = 80 := by omega
      exact ⟨rfl, (by repeat (first | assumption | exact Keeps.refl _ _ | (refine Keeps.bumpR ?_ _) | (refine Keeps.put ?_ (by assumption) (by simp only [n_bump, n_put, n_touch, n_kill] at *; omega)))), hS.bump _, f0, f1, f2, hO.bump _⟩
  · refine ⟨(by repeat (first | assumption | exact Keeps.refl _ _ | (refine Keeps.bumpR ?_ _) | (refine Keeps.put ?_ (by assumption) (by simp only [n_bump, n_put, n_touch, n_kill] at *; omega)))), (Short.refl _ _).bump _ |>.bump _, 0, by omega, rfl, rfl, rfl, rfl, rfl, ?_⟩
    rw [show ups 1 0 = [] from rfl, List.append_nil]
    exact ((hA.mono (fun g hg => .inl hg)).bump _).bump _
  rintro e fr s4 ⟨hw4, hn4, rfl, hK4, hS4, f0, f1, f2, hG⟩
  have hS4n := hS4.n
  replace hG := hG.lt hw4
  have hK4' : Keeps (fun g => (K g ∧ g < st.n)) st s4 := Keeps.call hE3 hK4 hw (fun g hg => hg.elim .inl (fun h => .inr (by omega)))
  have hA4 : OwB s4 (fun g => K g ∧ g < st.n) a (xs.map turn) := hA.short hS4 (by simp)
  have hB4 : OwB s4 (fun g => Kb g ∧ g < st.n) b xs := hb.keep hK4' (fun g h h' => dab g h'.1 h.1)
  have hC4 : RdB s4 (fun g => Kc g ∧ g < st.n) c xs := hc.keep hK4' (fun g h h' => dca g h.1 h'.1)
  generalize hgv : fr 7 = gv at hG
  have hgs := hG.solid
  repeat (first | (refine aw_seq ?_) | (refine aw_reg0 (by simp only [SZ, Nat.reduceAdd]; exact rfl) ?_) | (refine aw_reg (by decide +kernel) (by simp only [SZ, Nat.reduceAdd]; exact rfl) ?_) | (refine aw_regS (by decide +kernel) (by simp only [SZ, Nat.reduceAdd]; exact rfl) ?_) | (refine arl_nil ?_) | (refine aw_skip ?_) | (refine aw_block ?_) | (refine aw_exit ?_) | (refine aw_ret ?_) | (refine arl_cons rfl rfl (by simp +decide only [aop, abuiltin, aeval, aintBin, bin_int, aload_bump, SS, reduceIte, reduceCtorEq, f0, f1, f2, hgv]; exact rfl) (by first | rfl | with_reducible assumption) rfl ?_) | (refine arl_none rfl rfl (by simp +decide only [aop, abuiltin, aeval, aintBin, bin_int, aload_bump, SS, reduceIte, reduceCtorEq, f0, f1, f2, hgv]; exact rfl) rfl rfl ?_) | (refine arl_off rfl rfl ?_))
  refine arl_call rfl rfl rfl rfl rfl rfl ((same_self (by repeat (first | assumption | (refine WF.bump ?_ _) | (refine WF.put ?_ (by simp only [n_bump, n_put, n_touch, n_kill] at *; omega) (by simp only [n_bump, n_put, n_touch, n_kill] at *; omega)))) (hB4.rd.keep (G := fun _ => False) (by repeat (first | assumption | exact Keeps.refl _ _ | (refine Keeps.bumpR ?_ _) | (refine Keeps.put ?_ (by assumption) (by simp only [n_bump, n_put, n_touch, n_kill] at *; omega)))) (fun _ _ h => h)) (hC4.keep (G := fun _ => False) (by repeat (first | assumption | exact Keeps.refl _ _ | (refine Keeps.bumpR ?_ _) | (refine Keeps.put ?_ (by assumption) (by simp only [n_bump, n_put, n_touch, n_kill] at *; omega)))) (fun _ _ h => h)) (by omega)).wf (by repeat (first | assumption | (refine WF.bump ?_ _) | (refine WF.put ?_ (by simp only [n_bump, n_put, n_touch, n_kill] at *; omega) (by simp only [n_bump, n_put, n_touch, n_kill] at *; omega)))) |>.mono ?_)
  rintro r s5 ⟨hw5, hn5, hE5, rfl⟩
  refine ⟨rfl, ?_⟩
  replace hE5 : Ext s4 s5 := Keeps.trans (by repeat (first | assumption | exact Keeps.refl _ _ | (refine Keeps.bumpR ?_ _) | (refine Keeps.put ?_ (by assumption) (by simp only [n_bump, n_put, n_touch, n_kill] at *; omega)))) hE5
  have hlA := hA4.rd.len
  rw [List.length_map] at hlA
  obtain ⟨v', hcut, hcr⟩ := (hG.keep hE5 (fun _ _ h => h)).cut
  rw [List.length_map] at hcut
  have hcs' := hcr.solid
  repeat (first | (refine aw_seq ?_) | (refine aw_reg0 (by simp only [SZ, Nat.reduceAdd]; exact rfl) ?_) | (refine aw_reg (by decide +kernel) (by simp only [SZ, Nat.reduceAdd]; exact rfl) ?_) | (refine aw_regS (by decide +kernel) (by simp only [SZ, Nat.reduceAdd]; exact rfl) ?_) | (refine arl_nil ?_) | (refine aw_skip ?_) | (refine aw_block ?_) | (refine aw_exit ?_) | (refine aw_ret ?_) | (refine arl_cons rfl rfl (by simp +decide only [aop, abuiltin, aeval, aintBin, bin_int, aload_bump, SS, reduceIte, reduceCtorEq, f0, f1, f2, hgv, hlA, hcut]; exact rfl) (by first | rfl | with_reducible assumption) rfl ?_) | (refine arl_none rfl rfl (by simp +decide only [aop, abuiltin, aeval, aintBin, bin_int, aload_bump, SS, reduceIte, reduceCtorEq, f0, f1, f2, hgv, hlA, hcut]; exact rfl) rfl rfl ?_) | (refine arl_off rfl rfl ?_))
  refine arl_call rfl rfl rfl rfl rfl rfl ((turned_ok (by repeat (first | assumption | (refine WF.bump ?_ _) | (refine WF.put ?_ (by simp only [n_bump, n_put, n_touch, n_kill] at *; omega) (by simp only [n_bump, n_put, n_touch, n_kill] at *; omega)))) hcr (hC4.keep hE5 (fun _ _ h => h)) (by omega)).wf (by repeat (first | assumption | (refine WF.bump ?_ _) | (refine WF.put ?_ (by simp only [n_bump, n_put, n_touch, n_kill] at *; omega) (by simp only [n_bump, n_put, n_touch, n_kill] at *; omega)))) |>.mono ?_)
  rintro r s6 ⟨hw6, hn6, hE6, rfl⟩
  refine ⟨rfl, ?_⟩
  replace hE6 : Ext s4 s6 := Keeps.trans hE5 hE6
  repeat (first | (refine aw_seq ?_) | (refine aw_reg0 (by simp only [SZ, Nat.reduceAdd]; exact rfl) ?_) | (refine aw_reg (by decide +kernel) (by simp only [SZ, Nat.reduceAdd]; exact rfl) ?_) | (refine aw_regS (by decide +kernel) (by simp only [SZ, Nat.reduceAdd]; exact rfl) ?_) | (refine arl_nil ?_) | (refine aw_skip ?_) | (refine aw_block ?_) | (refine aw_exit ?_) | (refine aw_ret ?_) | (refine arl_cons rfl rfl (by simp +decide only [aop, abuiltin, aeval, aintBin, bin_int, aload_bump, SS, reduceIte, reduceCtorEq]; exact rfl) (by first | rfl | with_reducible assumption) rfl ?_) | (refine arl_none rfl rfl (by simp +decide only [aop, abuiltin, aeval, aintBin, bin_int, aload_bump, SS, reduceIte, reduceCtorEq]; exact rfl) rfl rfl ?_) | (refine arl_off rfl rfl ?_))
  (change AW _ _ _ _ _)
  refine aw_cond (by simp +decide only [aop, abuiltin, aeval, aintBin, bin_int, aload_bump, SS, reduceIte, reduceCtorEq]; exact rfl) (fun hq => ?_) (fun hq => ?_)
  · cases hq
  clear hq
  have hE6n := hE6.n
  have hA6 := hA4.keep hE6 (fun _ _ h => h)
  have hB6 := hB4.keep hE6 (fun _ _ h => h)
  have hC6 := hC4.keep hE6 (fun _ _ h => h)
  have hG6 := hG.keep hE6 (fun _ _ h => h)
  repeat (first | (refine aw_seq ?_) | (refine aw_reg0 (by simp only [SZ, Nat.reduceAdd]; exact rfl) ?_) | (refine aw_reg (by decide +kernel) (by simp only [SZ, Nat.reduceAdd]; exact rfl) ?_) | (refine aw_regS (by decide +kernel) (by simp only [SZ, Nat.reduceAdd]; exact rfl) ?_) | (refine arl_nil ?_) | (refine aw_skip ?_) | (refine aw_block ?_) | (refine aw_exit ?_) | (refine aw_ret ?_) | (refine arl_cons rfl rfl (by simp +decide only [aop, abuiltin, aeval, aintBin, bin_int, aload_bump, SS, reduceIte, reduceCtorEq, f0, f1, f2, hgv]; exact rfl) (by first | rfl | with_reducible assumption) rfl ?_) | (refine arl_none rfl rfl (by simp +decide only [aop, abuiltin, aeval, aintBin, bin_int, aload_bump, SS, reduceIte, reduceCtorEq, f0, f1, f2, hgv]; exact rfl) rfl rfl ?_) | (refine arl_off rfl rfl ?_))
  refine AW.mono (AW.wf (aw_rounds_wf (fun n fr s => Keeps (fun g => (Kb g ∧ g < st.n) ∨ s6.n ≤ g) s6 s ∧ Short xs.length s6 s ∧ ∃ (k : Nat), k ≤ 80 ∧ n = 80 - k ∧ fr 0 = a ∧ fr 1 = b ∧ fr 2 = c ∧ fr 7 = gv ∧ fr 10 = i64 k ∧ OwB s (fun g => (Kb g ∧ g < st.n) ∨ s6.n ≤ g) (fr 9) (xs ++ ups 101 k)) (Q := fun e fr s => e = .exit 2 ∧ Keeps (fun g => (Kb g ∧ g < st.n) ∨ s6.n ≤ g) s6 s ∧ Short xs.length s6 s ∧ fr 0 = a ∧ fr 1 = b ∧ fr 2 = c ∧ fr 7 = gv ∧ OwB s (fun g => (Kb g ∧ g < st.n) ∨ s6.n ≤ g) (fr 9) (xs ++ ups 101 80)) ?_ 80 _ _ (by repeat (first | assumption | (refine WF.bump ?_ _) | (refine WF.put ?_ (by simp only [n_bump, n_put, n_touch, n_kill] at *; omega) (by simp only [n_bump, n_put, n_touch, n_kill] at *; omega)))) ?_) (by repeat (first | assumption | (refine WF.bump ?_ _) | (refine WF.put ?_ (by simp only [n_bump, n_put, n_touch, n_kill] at *; omega) (by simp only [n_bump, n_put, n_touch, n_kill] at *; omega))))) ?_
  · rintro n fr s hws ⟨hE, hS, k, hk, rfl, f0, f1, f2, f7, f10, hO⟩
    have hos := hO.solid
    have hEn := hE.n
    repeat (first | (refine aw_seq ?_) | (refine aw_reg0 (by simp only [SZ, Nat.reduceAdd]; exact rfl) ?_) | (refine aw_reg (by decide +kernel) (by simp only [SZ, Nat.reduceAdd]; exact rfl) ?_) | (refine aw_regS (by decide +kernel) (by simp only [SZ, Nat.reduceAdd]; exact rfl) ?_) | (refine arl_nil ?_) | (refine aw_skip ?_) | (refine aw_block ?_) | (refine aw_exit ?_) | (refine aw_ret ?_) | (refine arl_cons rfl rfl (by simp +decide only [aop, abuiltin, aeval, aintBin, bin_int, aload_bump, SS, reduceIte, reduceCtorEq, f10]; exact rfl) (by first | rfl | with_reducible assumption) rfl ?_) | (refine arl_none rfl rfl (by simp +decide only [aop, abuiltin, aeval, aintBin, bin_int, aload_bump, SS, reduceIte, reduceCtorEq, f10]; exact rfl) rfl rfl ?_) | (refine arl_off rfl rfl ?_))
    (change AW _ _ _ _ _)
    refine aw_cond (by simp +decide only [aop, abuiltin, aeval, aintBin, bin_int, aload_bump, SS, reduceIte, reduceCtorEq]; exact rfl) (fun hc4 => ?_) (fun hc4 => ?_)
    · simp only [decide_eq_true_eq] at hc4
      have hk2 : k < 80 := by omega
      have hwi : IntKind.i64.wrap ((k : Int) + 1) = (k : Int) + 1 := wrap64_of (by omega) (by omega)
      have hwj : IntKind.i64.wrap ((k : Int) + 101) = (k : Int) + 101 := wrap64_of (by omega) (by omega)
      have hwu : IntKind.u8.wrap ((k : Int) + 101) = ((k : Int) + 101) % 256 := IntKind.wrap_u8 _
      repeat (first | (refine aw_seq ?_) | (refine aw_reg0 (by simp only [SZ, Nat.reduceAdd]; exact rfl) ?_) | (refine aw_reg (by decide +kernel) (by simp only [SZ, Nat.reduceAdd]; exact rfl) ?_) | (refine aw_regS (by decide +kernel) (by simp only [SZ, Nat.reduceAdd]; exact rfl) ?_) | (refine arl_nil ?_) | (refine aw_skip ?_) | (refine aw_block ?_) | (refine aw_exit ?_) | (refine aw_ret ?_) | (refine arl_cons rfl rfl (by simp +decide only [aop, abuiltin, aeval, aintBin, bin_int, aload_bump, SS, reduceIte, reduceCtorEq, f10, hwj, conv_int Try.underlying3 Try.underlying5, hwu, lit1]; exact rfl) (by first | rfl | with_reducible assumption) rfl ?_) | (refine arl_none rfl rfl (by simp +decide only [aop, abuiltin, aeval, aintBin, bin_int, aload_bump, SS, reduceIte, reduceCtorEq, f10, hwj, conv_int Try.underlying3 Try.underlying5, hwu, lit1]; exact rfl) rfl rfl ?_) | (refine arl_off rfl rfl ?_))
      refine arl_appS (K := fun g => (Kb g ∧ g < st.n) ∨ s6.n ≤ g) (K' := fun _ => True) (xs := xs ++ ups 101 k) (ns := [((k : Int) + 101) % 256]) rfl rfl rfl (hO.keep (G := fun _ => False) (by repeat (first | assumption | exact Keeps.refl _ _ | (refine Keeps.bumpR ?_ _) | (refine Keeps.put ?_ (by assumption) (by simp only [n_bump, n_put, n_touch, n_kill] at *; omega)))) (fun _ _ h => h)) (RdB.lit _ _ _ [_]) (.inr (by simp only [n_bump, n_put, n_touch, n_kill] at *; omega)) (by simp [ups_len]; omega) ?_
      intro y s4 hO2 hn2 hK2 hS2
      have hys := hO2.solid
      have hE4 := hK2 (fun g => (Kb g ∧ g < st.n) ∨ s6.n ≤ g) s6 hw6 (by repeat (first | assumption | exact Keeps.refl _ _ | (refine Keeps.bumpR ?_ _) | (refine Keeps.put ?_ (by assumption) (by simp only [n_bump, n_put, n_touch, n_kill] at *; omega)))) (by simp only [n_bump, n_put, n_touch, n_kill] at *; omega) (fun g hg => .inl hg)
      have hS4 := hS2 xs.length s6 hw6 (((hS.bump _).bump _).put hw6 (by simp only [n_bump, n_put, n_touch, n_kill] at *; omega)) (by simp only [n_bump, n_put, n_touch, n_kill] at *; omega) (by simp)
      repeat (first | (refine aw_seq ?_) | (refine aw_reg0 (by simp only [SZ, Nat.reduceAdd]; exact rfl) ?_) | (refine aw_reg (by decide +kernel) (by simp only [SZ, Nat.reduceAdd]; exact rfl) ?_) | (refine aw_regS (by decide +kernel) (by simp only [SZ, Nat.reduceAdd]; exact rfl) ?_) | (refine arl_nil ?_) | (refine aw_skip ?_) | (refine aw_block ?_) | (refine aw_exit ?_) | (refine aw_ret ?_) | (refine arl_cons rfl rfl (by simp +decide only [aop, abuiltin, aeval, aintBin, bin_int, aload_bump, SS, reduceIte, reduceCtorEq, f10]; exact rfl) (by first | rfl | with_reducible assumption) rfl ?_) | (refine arl_none rfl rfl (by simp +decide only [aop, abuiltin, aeval, aintBin, bin_int, aload_bump, SS, reduceIte, reduceCtorEq, f10]; exact rfl) rfl rfl ?_) | (refine arl_off rfl rfl ?_))
      refine ⟨80 - (k + 1), by omega, (by repeat (first | assumption | exact Keeps.refl _ _ | (refine Keeps.bumpR ?_ _) | (refine Keeps.put ?_ (by assumption) (by simp only [n_bump, n_put, n_touch, n_kill] at *; omega)))), hS4.bump _, k + 1, by omega, rfl, f0, f1, f2, f7, ?_, ?_⟩
      · show AV.pl _ = _
        rw [hwi]; rfl
      · rw [ups_succ, ← List.append_assoc]; exact hO2.bump _
    · simp only [decide_eq_false_iff_not] at hc4
      repeat (first | (refine aw_seq ?_) | (refine aw_reg0 (by simp only [SZ, Nat.reduceAdd]; exact rfl) ?_) | (refine aw_reg (by decide +kernel) (by simp only [SZ, Nat.reduceAdd]; exact rfl) ?_) | (refine aw_regS (by decide +kernel) (by simp only [SZ, Nat.reduceAdd]; exact rfl) ?_) | (refine arl_nil ?_) | (refine aw_skip ?_) | (refine aw_block ?_) | (refine aw_exit ?_) | (refine aw_ret ?_) | (refine arl_cons rfl rfl (by simp +decide only [aop, abuiltin, aeval, aintBin, bin_int, aload_bump, SS, reduceIte, reduceCtorEq, f10]; exact rfl) (by first | rfl | with_reducible assumption) rfl ?_) | (refine arl_none rfl rfl (by simp +decide only [aop, abuiltin, aeval, aintBin, bin_int, aload_bump, SS, reduceIte, reduceCtorEq, f10]; exact rfl) rfl rfl ?_) | (refine arl_off rfl rfl ?_))
      obtain rfl : k = 80 := by omega
      exact ⟨rfl, (by repeat (first | assumption | exact Keeps.refl _ _ | (refine Keeps.bumpR ?_ _) | (refine Keeps.put ?_ (by assumption) (by simp only [n_bump, n_put, n_touch, n_kill] at *; omega)))), hS.bump _, f0, f1, f2, f7, hO.bump _⟩
  · refine ⟨(by repeat (first | assumption | exact Keeps.refl _ _ | (refine Keeps.bumpR ?_ _) | (refine Keeps.put ?_ (by assumption) (by simp only [n_bump, n_put, n_touch, n_kill] at *; omega)))), (Short.refl _ _).bump _ |>.bump _, 0, by omega, rfl, f0, f1, f2, hgv, rfl, ?_⟩
    rw [show ups 101 0 = [] from rfl, List.append_nil]
    exact ((hB6.mono (fun g hg => .inl hg)).bump _).bump _
  rintro e fr s7 ⟨hw7, hn7, rfl, hK7, hS7, f0, f1, f2, f7, hH⟩
  have hS7n := hS7.n
  have hB7 := hB6.short hS7 (by simp)
  have hA7 : OwB s7 (fun g => K g ∧ g < st.n) a (xs.map turn) := hA6.keep hK7 (fun g h h' => h'.elim (fun h' => dab g h.1 h'.1) (fun h' => by omega))
  have hG7 : OwB s7 _ gv (xs.map turn ++ ups 1 80) := hG6.keep hK7 (fun g h h' => h'.elim (fun h' => h.1.elim (fun h => dab g h.1 h'.1) (fun h => by omega)) (fun h' => by omega))
  have hC7 : RdB s7 (fun g => Kc g ∧ g < st.n) c xs := hC6.keep hK7 (fun g h h' => h'.elim (fun h' => dcb g h.1 h'.1) (fun h' => by omega))
  generalize hhv : fr 9 = hv at hH
  have hhs := hH.solid
  obtain ⟨ih, gh, hve, hget7, -⟩ := hH.resolve_left (fun h => by have := congrArg List.length h.1; simp [ups_len] at this)
  repeat (first | (refine aw_seq ?_) | (refine aw_reg0 (by simp only [SZ, Nat.reduceAdd]; exact rfl) ?_) | (refine aw_reg (by decide +kernel) (by simp only [SZ, Nat.reduceAdd]; exact rfl) ?_) | (refine aw_regS (by decide +kernel) (by simp only [SZ, Nat.reduceAdd]; exact rfl) ?_) | (refine arl_nil ?_) | (refine aw_skip ?_) | (refine aw_block ?_) | (refine aw_exit ?_) | (refine aw_ret ?_) | (refine arl_cons rfl rfl (by simp +decide only [aop, abuiltin, aeval, aintBin, bin_int, aload_bump, SS, reduceIte, reduceCtorEq, f0, f1, f2, f7, hhv]; exact rfl) (by first | rfl | with_reducible assumption) rfl ?_) | (refine arl_none rfl rfl (by simp +decide only [aop, abuiltin, aeval, aintBin, bin_int, aload_bump, SS, reduceIte, reduceCtorEq, f0, f1, f2, f7, hhv]; exact rfl) rfl rfl ?_) | (refine arl_off rfl rfl ?_))
  refine arl_call rfl rfl rfl rfl rfl rfl ((spoil_ok (by repeat (first | assumption | (refine WF.bump ?_ _) | (refine WF.put ?_ (by simp only [n_bump, n_put, n_touch, n_kill] at *; omega) (by simp only [n_bump, n_put, n_touch, n_kill] at *; omega)))) (hB7.keep (G := fun _ => False) (by repeat (first | assumption | exact Keeps.refl _ _ | (refine Keeps.bumpR ?_ _) | (refine Keeps.put ?_ (by assumption) (by simp only [n_bump, n_put, n_touch, n_kill] at *; omega)))) (fun _ _ h => h)) (by omega)).wf (by repeat (first | assumption | (refine WF.bump ?_ _) | (refine WF.put ?_ (by simp only [n_bump, n_put, n_touch, n_kill] at *; omega) (by simp only [n_bump, n_put, n_touch, n_kill] at *; omega)))) |>.mono ?_)
  rintro r s8 ⟨hw8, hn8, hE8, hrs, hB8, hT8⟩
  refine ⟨hrs, ?_⟩
  replace hE8 : Keeps (fun g => Kb g ∧ g < st.n) s7 s8 := Keeps.trans (Keeps.mono (G := fun _ => False) (by repeat (first | assumption | exact Keeps.refl _ _ | (refine Keeps.bumpR ?_ _) | (refine Keeps.put ?_ (by assumption) (by simp only [n_bump, n_put, n_touch, n_kill] at *; omega)))) (fun _ h => h.elim)) hE8
  have hA8 := hA7.keep hE8 (fun g h h' => dab g h.1 h'.1)
  have hG8 := hG7.keep hE8 (fun g h h' => h.1.elim (fun h => dab g h.1 h'.1) (fun h => by omega))
  have hC8 := hC7.keep hE8 (fun g h h' => dcb g h.1 h'.1)
  obtain ⟨oh, hget8, hoh1, hoh2, hoh3⟩ := hT8 ih _ hget7
  repeat (first | (refine aw_seq ?_) | (refine aw_reg0 (by simp only [SZ, Nat.reduceAdd]; exact rfl) ?_) | (refine aw_reg (by decide +kernel) (by simp only [SZ, Nat.reduceAdd]; exact rfl) ?_) | (refine aw_regS (by decide +kernel) (by simp only [SZ, Nat.reduceAdd]; exact rfl) ?_) | (refine arl_nil ?_) | (refine aw_skip ?_) | (refine aw_block ?_) | (refine aw_exit ?_) | (refine aw_ret ?_) | (refine arl_cons rfl rfl (by simp +decide only [aop, abuiltin, aeval, aintBin, bin_int, aload_bump, SS, reduceIte, reduceCtorEq, f0, f1, f2, f7, hhv]; exact rfl) (by first | rfl | with_reducible assumption) rfl ?_) | (refine arl_none rfl rfl (by simp +decide only [aop, abuiltin, aeval, aintBin, bin_int, aload_bump, SS, reduceIte, reduceCtorEq, f0, f1, f2, f7, hhv]; exact rfl) rfl rfl ?_) | (refine arl_off rfl rfl ?_))
  refine AW.mono (AW.wf (aw_rounds_wf (fun n fr s => Ext s8 s ∧ ∃ (k : Nat), k ≤ 80 ∧ n = 80 - k ∧ fr 0 = a ∧ fr 1 = b ∧ fr 2 = c ∧ fr 7 = gv ∧ fr 9 = hv ∧ fr 11 = i64 k) (Q := fun e fr s => e = .exit 4 ∧ Ext s8 s ∧ fr 0 = a ∧ fr 1 = b ∧ fr 2 = c) ?_ 80 _ _ (by repeat (first | assumption | (refine WF.bump ?_ _) | (refine WF.put ?_ (by simp only [n_bump, n_put, n_touch, n_kill] at *; omega) (by simp only [n_bump, n_put, n_touch, n_kill] at *; omega)))) ?_) (by repeat (first | assumption | (refine WF.bump ?_ _) | (refine WF.put ?_ (by simp only [n_bump, n_put, n_touch, n_kill] at *; omega) (by simp only [n_bump, n_put, n_touch, n_kill] at *; omega))))) ?_
  · rintro n fr s hws ⟨hE, k, hk, rfl, f0, f1, f2, f7, f9, f11⟩
    have hEn := hE.n
    repeat (first | (refine aw_seq ?_) | (refine aw_reg0 (by simp only [SZ, Nat.reduceAdd]; exact rfl) ?_) | (refine aw_reg (by decide +kernel) (by simp only [SZ, Nat.reduceAdd]; exact rfl) ?_) | (refine aw_regS (by decide +kernel) (by simp only [SZ, Nat.reduceAdd]; exact rfl) ?_) | (refine arl_nil ?_) | (refine aw_skip ?_) | (refine aw_block ?_) | (refine aw_exit ?_) | (refine aw_ret ?_) | (refine arl_cons rfl rfl (by simp +decide only [aop, abuiltin, aeval, aintBin, bin_int, aload_bump, SS, reduceIte, reduceCtorEq, f11]; exact rfl) (by first | rfl | with_reducible assumption) rfl ?_) | (refine arl_none rfl rfl (by simp +decide only [aop, abuiltin, aeval, aintBin, bin_int, aload_bump, SS, reduceIte, reduceCtorEq, f11]; exact rfl) rfl rfl ?_) | (refine arl_off rfl rfl ?_))
    (change AW _ _ _ _ _)
    refine aw_cond (by simp +decide only [aop, abuiltin, aeval, aintBin, bin_int, aload_bump, SS, reduceIte, reduceCtorEq]; exact rfl) (fun hc4 => ?_) (fun hc4 => ?_)
    · simp only [decide_eq_true_eq] at hc4
      have hk2 : k < 80 := by omega
      have hA9 := (hA8.keep hE (fun _ _ h => h)).rd.len
      have hB9 := (hB8.keep hE (fun _ _ h => h)).rd.len
      rw [List.length_map] at hA9 hB9
      obtain ⟨p, hp1, hp2, hp3⟩ := (hG8.keep hE (fun _ _ h => h)).rd.atN .i64 (xs.length + k) (by simp [ups_len]; omega)
      have hgx : (xs.map turn ++ ups 1 80)[xs.length + k]'(by simp [ups_len]; omega) = ((k : Int) + 1) % 256 := by
        have h1 : (xs.map turn ++ ups 1 80)[xs.length + k]? = some (((k : Int) + 1) % 256) := by
          rw [List.getElem?_append_right (by simp), List.length_map, Nat.add_sub_cancel_left, ups_get _ _ _ hk2]
        exact (List.getElem?_eq_some_iff.1 h1).2
      rw [hgx] at hp3
      have hhx : (xs ++ ups 101 80)[xs.length + k]? = some (((k : Int) + 101) % 256) := by
        rw [List.getElem?_append_right (by simp), Nat.add_sub_cancel_left, ups_get _ _ _ hk2]
      have hia : aindexAddr Try.prog 26 hv (i64 ((xs.length + k : Nat) : Int)) = some (.ptr ih (xs.length + k)) := by
        rw [hve, idx_sl uB sz5 ih 0 _ 1 .i64 _ (by omega) (by simp [ups_len]; omega)]
        simp
        omega
      have hld : aload Try.prog s 5 (.ptr ih (xs.length + k)) = some (u8 (((k : Int) + 101) % 256)) := load_at u5 rfl sz5 (hE.get ih _ hget8 (fun h => h)) (by
        rw [hoh3 _ (by omega), List.getElem?_map, hhx]
        rfl)
      have hwl : IntKind.i64.wrap ((xs.length : Int) + (k : Int)) = ((xs.length + k : Nat) : Int) := by rw [wrap64_of (by omega) (by omega)]; omega
      have hwi : IntKind.i64.wrap ((k : Int) + 1) = (k : Int) + 1 := wrap64_of (by omega) (by omega)
      have hwj : IntKind.i64.wrap ((k : Int) + 101) = (k : Int) + 101 := wrap64_of (by omega) (by omega)
      have hwu : IntKind.u8.wrap ((k : Int) + 101) = ((k : Int) + 101) % 256 := IntKind.wrap_u8 _
      have hwv : IntKind.u8.wrap ((k : Int) + 1) = ((k : Int) + 1) % 256 := IntKind.wrap_u8 _
      have hz1 : ((((k : Int) + 1) % 256 != ((k : Int) + 1) % 256)) = false := by simp
      have hz2 : ((((k : Int) + 101) % 256 != ((k : Int) + 101) % 256)) = false := by simp
      repeat (first | (refine aw_seq ?_) | (refine aw_reg0 (by simp only [SZ, Nat.reduceAdd]; exact rfl) ?_) | (refine aw_reg (by decide +kernel) (by simp only [SZ, Nat.reduceAdd]; exact rfl) ?_) | (refine aw_regS (by decide +kernel) (by simp only [SZ, Nat.reduceAdd]; exact rfl) ?_) | (refine arl_nil ?_) | (refine aw_skip ?_) | (refine aw_block ?_) | (refine aw_exit ?_) | (refine aw_ret ?_) | (refine arl_cons rfl rfl (by simp +decide only [aop, abuiltin, aeval, aintBin, bin_int, aload_bump, SS, reduceIte, reduceCtorEq, f0, f1, f7, f9, f11, hA9, hB9, hwl, hp1, hp3, hia, hld, hwi, hwj, conv_int Try.underlying3 Try.underlying5, hwu, hwv, hz1, hz2]; exact rfl) (by first | rfl | with_reducible assumption) rfl ?_) | (refine arl_none rfl rfl (by simp +decide only [aop, abuiltin, aeval, aintBin, bin_int, aload_bump, SS, reduceIte, reduceCtorEq, f0, f1, f7, f9, f11, hA9, hB9, hwl, hp1, hp3, hia, hld, hwi, hwj, conv_int Try.underlying3 Try.underlying5, hwu, hwv, hz1, hz2]; exact rfl) rfl rfl ?_) | (refine arl_off rfl rfl ?_))
      (change AW _ _ _ _ _)
      refine aw_cond (by simp +decide only [aop, abuiltin, aeval, aintBin, bin_int, aload_bump, SS, reduceIte, reduceCtorEq]; exact rfl) (fun hq => ?_) (fun hq => ?_)
      · cases hq
      clear hq
      repeat (first | (refine aw_seq ?_) | (refine aw_reg0 (by simp only [SZ, Nat.reduceAdd]; exact rfl) ?_) | (refine aw_reg (by decide +kernel) (by simp only [SZ, Nat.reduceAdd]; exact rfl) ?_) | (refine aw_regS (by decide +kernel) (by simp only [SZ, Nat.reduceAdd]; exact rfl) ?_) | (refine arl_nil ?_) | (refine aw_skip ?_) | (refine aw_block ?_) | (refine aw_exit ?_) | (refine aw_ret ?_) | (refine arl_cons rfl rfl (by simp +decide only [aop, abuiltin, aeval, aintBin, bin_int, aload_bump, SS, reduceIte, reduceCtorEq, f11]; exact rfl) (by first | rfl | with_reducible assumption) rfl ?_) | (refine arl_none rfl rfl (by simp +decide only [aop, abuiltin, aeval, aintBin, bin_int, aload_bump, SS, reduceIte, reduceCtorEq, f11]; exact rfl) rfl rfl ?_) | (refine arl_off rfl rfl ?_))
      refine ⟨80 - (k + 1), by omega, (by repeat (first | assumption | exact Keeps.refl _ _ | (refine Keeps.bumpR ?_ _) | (refine Keeps.put ?_ (by assumption) (by simp only [n_bump, n_put, n_touch, n_kill] at *; omega)))), k + 1, by omega, rfl, f0, f1, f2, f7, f9, ?_⟩
      show AV.pl _ = _
      rw [hwi]; rfl
    · simp only [decide_eq_false_iff_not] at hc4
      repeat (first | (refine aw_seq ?_) | (refine aw_reg0 (by simp only [SZ, Nat.reduceAdd]; exact rfl) ?_) | (refine aw_reg (by decide +kernel) (by simp only [SZ, Nat.reduceAdd]; exact rfl) ?_) | (refine aw_regS (by decide +kernel) (by simp only [SZ, Nat.reduceAdd]; exact rfl) ?_) | (refine arl_nil ?_) | (refine aw_skip ?_) | (refine aw_block ?_) | (refine aw_exit ?_) | (refine aw_ret ?_) | (refine arl_cons rfl rfl (by simp +decide only [aop, abuiltin, aeval, aintBin, bin_int, aload_bump, SS, reduceIte, reduceCtorEq, f11]; exact rfl) (by first | rfl | with_reducible assumption) rfl ?_) | (refine arl_none rfl rfl (by simp +decide only [aop, abuiltin, aeval, aintBin, bin_int, aload_bump, SS, reduceIte, reduceCtorEq, f11]; exact rfl) rfl rfl ?_) | (refine arl_off rfl rfl ?_))
      exact ⟨rfl, (by repeat (first | assumption | exact Keeps.refl _ _ | (refine Keeps.bumpR ?_ _) | (refine Keeps.put ?_ (by assumption) (by simp only [n_bump, n_put, n_touch, n_kill] at *; omega)))), f0, f1, f2⟩
  · exact ⟨(by repeat (first | assumption | exact Keeps.refl _ _ | (refine Keeps.bumpR ?_ _) | (refine Keeps.put ?_ (by assumption) (by simp only [n_bump, n_put, n_touch, n_kill] at *; omega)))), 0, by omega, rfl, f0, f1, f2, f7, hhv, rfl⟩
  rintro e fr s9 ⟨hw9, hn9, rfl, hE9, f0, f1, f2⟩
  have hA9 := hA8.keep hE9 (fun _ _ h => h)
  have hB9 := hB8.keep hE9 (fun _ _ h => h)
  have hC9 := hC8.keep hE9 (fun _ _ h => h)
  repeat (first | (refine aw_seq ?_) | (refine aw_reg0 (by simp only [SZ, Nat.reduceAdd]; exact rfl) ?_) | (refine aw_reg (by decide +kernel) (by simp only [SZ, Nat.reduceAdd]; exact rfl) ?_) | (refine aw_regS (by decide +kernel) (by simp only [SZ, Nat.reduceAdd]; exact rfl) ?_) | (refine arl_nil ?_) | (refine aw_skip ?_) | (refine aw_block ?_) | (refine aw_exit ?_) | (refine aw_ret ?_) | (refine arl_cons rfl rfl (by simp +decide only [aop, abuiltin, aeval, aintBin, bin_int, aload_bump, SS, reduceIte, reduceCtorEq, f0, f1, f2]; exact rfl) (by first | rfl | with_reducible assumption) rfl ?_) | (refine arl_none rfl rfl (by simp +decide only [aop, abuiltin, aeval, aintBin, bin_int, aload_bump, SS, reduceIte, reduceCtorEq, f0, f1, f2]; exact rfl) rfl rfl ?_) | (refine arl_off rfl rfl ?_))
  refine arl_call rfl rfl rfl rfl rfl rfl ((turned_ok (by repeat (first | assumption | (refine WF.bump ?_ _) | (refine WF.put ?_ (by simp only [n_bump, n_put, n_touch, n_kill] at *; omega) (by simp only [n_bump, n_put, n_touch, n_kill] at *; omega)))) (hA9.rd.keep (G := fun _ => False) (by repeat (first | assumption | exact Keeps.refl _ _ | (refine Keeps.bumpR ?_ _) | (refine Keeps.put ?_ (by assumption) (by simp only [n_bump, n_put, n_touch, n_kill] at *; omega)))) (fun _ _ h => h)) (hC9.keep (G := fun _ => False) (by repeat (first | assumption | exact Keeps.refl _ _ | (refine Keeps.bumpR ?_ _) | (refine Keeps.put ?_ (by assumption) (by simp only [n_bump, n_put, n_touch, n_kill] at *; omega)))) (fun _ _ h => h)) (by omega)).wf (by repeat (first | assumption | (refine WF.bump ?_ _) | (refine WF.put ?_ (by simp only [n_bump, n_put, n_touch, n_kill] at *; omega) (by simp only [n_bump, n_put, n_touch, n_kill] at *; omega)))) |>.mono ?_)
  rintro r s10 ⟨hw10, hn10, hE10, rfl⟩
  refine ⟨rfl, ?_⟩
  replace hE10 : Ext s9 s10 := Keeps.trans (by repeat (first | assumption | exact Keeps.refl _ _ | (refine Keeps.bumpR ?_ _) | (refine Keeps.put ?_ (by assumption) (by simp only [n_bump, n_put, n_touch, n_kill] at *; omega)))) hE10
  repeat (first | (refine aw_seq ?_) | (refine aw_reg0 (by simp only [SZ, Nat.reduceAdd]; exact rfl) ?_) | (refine aw_reg (by decide +kernel) (by simp only [SZ, Nat.reduceAdd]; exact rfl) ?_) | (refine aw_regS (by decide +kernel) (by simp only [SZ, Nat.reduceAdd]; exact rfl) ?_) | (refine arl_nil ?_) | (refine aw_skip ?_) | (refine aw_block ?_) | (refine aw_exit ?_) | (refine aw_ret ?_) | (refine arl_cons rfl rfl (by simp +decide only [aop, abuiltin, aeval, aintBin, bin_int, aload_bump, SS, reduceIte, reduceCtorEq, f0, f1, f2]; exact rfl) (by first | rfl | with_reducible assumption) rfl ?_) | (refine arl_none rfl rfl (by simp +decide only [aop, abuiltin, aeval, aintBin, bin_int, aload_bump, SS, reduceIte, reduceCtorEq, f0, f1, f2]; exact rfl) rfl rfl ?_) | (refine arl_off rfl rfl ?_))
  refine arl_call rfl rfl rfl rfl rfl rfl ((turned_ok (by repeat (first | assumption | (refine WF.bump ?_ _) | (refine WF.put ?_ (by simp only [n_bump, n_put, n_touch, n_kill] at *; omega) (by simp only [n_bump, n_put, n_touch, n_kill] at *; omega)))) (hB9.rd.keep hE10 (fun _ _ h => h)) (hC9.keep hE10 (fun _ _ h => h)) (by omega)).wf (by repeat (first | assumption | (refine WF.bump ?_ _) | (refine WF.put ?_ (by simp only [n_bump, n_put, n_touch, n_kill] at *; omega) (by simp only [n_bump, n_put, n_touch, n_kill] at *; omega)))) |>.mono ?_)
  rintro r s11 ⟨hw11, hn11, hE11, rfl⟩
  refine ⟨rfl, ?_⟩
  replace hE11 : Ext s9 s11 := Keeps.trans hE10 hE11
  repeat (first | (refine aw_seq ?_) | (refine aw_reg0 (by simp only [SZ, Nat.reduceAdd]; exact rfl) ?_) | (refine aw_reg (by decide +kernel) (by simp only [SZ, Nat.reduceAdd]; exact rfl) ?_) | (refine aw_regS (by decide +kernel) (by simp only [SZ, Nat.reduceAdd]; exact rfl) ?_) | (refine arl_nil ?_) | (refine aw_skip ?_) | (refine aw_block ?_) | (refine aw_exit ?_) | (refine aw_ret ?_) | (refine arl_cons rfl rfl (by simp +decide only [aop, abuiltin, aeval, aintBin, bin_int, aload_bump, SS, reduceIte, reduceCtorEq]; exact rfl) (by first | rfl | with_reducible assumption) rfl ?_) | (refine arl_none rfl rfl (by simp +decide only [aop, abuiltin, aeval, aintBin, bin_int, aload_bump, SS, reduceIte, reduceCtorEq]; exact rfl) rfl rfl ?_) | (refine arl_off rfl rfl ?_))
  refine ⟨.inr rfl, _, rfl, ?_, rfl⟩
  have e1 : Keeps (fun g => K g ∨ Kb g) st s6 := (hK4'.mono (fun g h => .inl h.1)).trans (hE6.mono (fun _ h => h.elim))
  have e2 : Keeps (fun g => K g ∨ Kb g) st s7 := Keeps.call e1 hK7 hw (fun g h => h.elim (fun h => .inl (.inr h.1)) (fun h => .inr (by omega)))
  have e3 : Keeps (fun g => K g ∨ Kb g) st s8 := e2.trans (hE8.mono (fun g h => .inr h.1))
  have e4 : Keeps (fun g => K g ∨ Kb g) st s11 := e3.trans ((hE9.trans hE11).mono (fun _ h => h.elim))
  exact e4
end Go.Proofs.Ytoccmjhgmoandaa.Ra
