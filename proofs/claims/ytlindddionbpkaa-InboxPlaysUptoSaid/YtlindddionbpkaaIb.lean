/- leatlaw26.alive. -/
import Derived.Test.YtlindddionbpkaaIa
namespace Go.Proofs.Ytlindddionbpkaa.Ra
open Go Go.RowKit
set_option linter.unusedVariables false
set_option linter.unusedSimpArgs false
set_option maxRecDepth 10000
abbrev BT : TypeId := 27
abbrev TRo : TF Try.prog 22 BT oRowK.s 24 := TR
abbrev TRr : TF Try.prog 22 BT rowK.s 24 := TR
theorem pNilI (p : Nat) : abin Try.prog .eql INB (.ptr p 0) (.pl (.pointer none)) = some (.bool false) := by kernel_rfl
theorem litQ (id : Nat) (cs : List AV) (h : ∀ c ∈ cs, c.solid = true ∧ c.cells = [c]) (hn : cs.length ≤ 16777216) : abuildSlice Try.prog 22 id cs.length (cs.zipIdx.map fun p => (p.2, p.1)) = some (.sl id 0 cs.length 1, ⟨cs, BT, true, id⟩) := lits_one TR id cs h hn
theorem litQ0 (id : Nat) : abuildSlice Try.prog 22 id 0 [] = some (.sl id 0 0 1, ⟨[], BT, true, id⟩) := lits_one TR id [] (by simp) (by decide)
theorem litQ1 {st : St} {K : Nat → Prop} {x : AV} {ys : List Int} (hl : RdB st K x ys) (id : Nat) : abuildSlice Try.prog 22 id 1 [(0, x)] = some (.sl id 0 1 1, ⟨[x], BT, true, id⟩) := lits_one TR id [x] (by simp [hl.solid, hl.cell.1]) (by simp)
theorem litS1 (id a n : Nat) : abuildSlice Try.prog 22 id 1 [(0, .sl a 0 n 1)] = some (.sl id 0 1 1, ⟨[.sl a 0 n 1], BT, true, id⟩) := lits_one TR id [.sl a 0 n 1] (by simp [AV.solid, AV.cells]) (by simp)
theorem litS2 (id a b n m : Nat) : abuildSlice Try.prog 22 id 2 [(0, .sl a 0 n 1), (1, .sl b 0 m 1)] = some (.sl id 0 2 1, ⟨[.sl a 0 n 1, .sl b 0 m 1], BT, true, id⟩) := lits_one TR id [.sl a 0 n 1, .sl b 0 m 1] (by simp [AV.solid, AV.cells]) (by simp)
theorem litS3 (id a b c : Nat) : abuildSlice Try.prog 22 id 3 [(0, .sl a 0 1 1), (1, .sl b 0 1 1), (2, .sl c 0 1 1)] = some (.sl id 0 3 1, ⟨[.sl a 0 1 1, .sl b 0 1 1, .sl c 0 1 1], BT, true, id⟩) := lits_one TR id [.sl a 0 1 1, .sl b 0 1 1, .sl c 0 1 1] (by simp [AV.solid, AV.cells]) (by simp)
theorem RdB.here {s : St} {K : Nat → Prop} {id g : Nat} (ns : List Int) (h : s.get id = some ⟨ns.map u8, 5, true, g⟩) (hK : K g) : RdB s K (.sl id 0 ns.length 1) ns :=
  .inr ⟨id, 0, true, _, rfl, h, hK, by simp, fun j x hx => by simp [hx]⟩
theorem RdE.here {s : St} {K : Nat → Prop} {id g : Nat} {cs : List AV} {xs : List (List Int)} (hg : s.get id = some ⟨cs, BT, true, g⟩) (hK : K g) (hl : cs.length = xs.length) (h : ∀ (j : Nat) (c : AV) (x : List Int), cs[j]? = some c → xs[j]? = some x → RdB s K c x) : RdE rowK s K (.sl id 0 xs.length 1) xs := by
  refine .inr ⟨id, 0, true, ⟨cs, BT, true, g⟩, rfl, hg, hK, by show 0 + xs.length * 1 ≤ cs.length; omega, fun j x hx => ?_⟩
  have hj : j < xs.length := (List.getElem?_eq_some_iff.1 hx).1
  have hc : cs[j]? = some (cs[j]'(by omega)) := List.getElem?_eq_getElem (by omega)
  refine ⟨cs[j], ?_, h j _ x hc hx⟩
  show (cs.drop (0 + j * 1)).take 1 = _
  rw [Nat.zero_add, Nat.mul_one, List.drop_eq_getElem_cons (by omega), List.take_succ_cons, List.take_zero]
theorem plc2 : Qa.plc 2 = 2 := by decide
theorem Apt.tail {n lo k : Nat} {L : Nat → Nat → Prop} (h : Apt n lo (k + 1) L) : Apt n lo k (fun j => L (j + 1)) := ⟨fun j g hj hl => h.rng (j + 1) g (by omega) hl, fun i j g hi hj h1 h2 => by have := h.one (i + 1) (j + 1) g (by omega) (by omega) h1 h2; omega⟩
theorem Apt.zero (n : Nat) (L : Nat → Nat → Prop) : Apt n n 0 L := ⟨fun j g hj => by omega, fun i j g hi => by omega⟩
set_option maxHeartbeats 4000000 in
theorem ialive_ok {st : St} (hw : WF st) : ACalls Try.prog 7 [] st (fun r s => Ext st s ∧ r = .pl (.bool true)) := by
  refine acalls_of Try.func7 rfl (by kernel_rfl) rfl ?_
  repeat (first | (refine aw_seq ?_) | (refine aw_reg0 (by simp only [SZ, Nat.reduceAdd]; exact rfl) ?_) | (refine aw_reg (by decide +kernel) (by simp only [SZ, Nat.reduceAdd]; exact rfl) ?_) | (refine aw_regS (by decide +kernel) (by simp only [SZ, Nat.reduceAdd]; exact rfl) ?_) | (refine arl_nil ?_) | (refine aw_skip ?_) | (refine aw_block ?_) | (refine aw_exit ?_) | (refine aw_ret ?_) | (refine arl_cons rfl rfl (by simp +decide only [aop, abuiltin, aeval, aintBin, bin_int, aload_bump, SS, reduceIte, reduceCtorEq]; exact rfl) (by first | rfl | with_reducible assumption) rfl ?_) | (refine arl_none rfl rfl (by simp +decide only [aop, abuiltin, aeval, aintBin, bin_int, aload_bump, SS, reduceIte, reduceCtorEq]; exact rfl) rfl rfl ?_) | (refine arl_off rfl rfl ?_) | (refine aw_condT (by simp +decide only [aop, abuiltin, aeval, aintBin, bin_int, aload_bump, SS, reduceIte, reduceCtorEq]; first | done | exact rfl) ?_) | (refine aw_condF (by simp +decide only [aop, abuiltin, aeval, aintBin, bin_int, aload_bump, SS, reduceIte, reduceCtorEq]; first | done | exact rfl) ?_))
  refine arl_call rfl rfl rfl rfl rfl rfl ((inew_ok (by repeat (first | assumption | (refine WF.bump ?_ _))) 2).wf (by repeat (first | assumption | (refine WF.bump ?_ _) | (refine WF.put ?_ (by simp only [n_bump, n_put, n_touch, n_kill] at *; omega) (by simp only [n_bump, n_put, n_touch, n_kill] at *; omega)))) |>.mono ?_)
  rintro r s1 ⟨hw1, hn1, hE1, p, rfl, hp, hQ1⟩
  refine ⟨by first | rfl | with_reducible assumption, ?_⟩
  replace hE1 : Ext st s1 := Keeps.trans (by repeat (first | assumption | exact Keeps.refl _ _ | (refine Keeps.bumpR ?_ _) | (refine Keeps.put ?_ (by assumption) (by simp only [n_bump, n_put, n_touch, n_kill] at *; omega)))) hE1
  have hN1 := hE1.n
  rw [plc2] at hQ1
  have hp1 := hQ1.lt
  simp only [n_bump] at hp
  repeat (first | (refine aw_seq ?_) | (refine aw_reg0 (by simp only [SZ, Nat.reduceAdd]; exact rfl) ?_) | (refine aw_reg (by decide +kernel) (by simp only [SZ, Nat.reduceAdd]; exact rfl) ?_) | (refine aw_regS (by decide +kernel) (by simp only [SZ, Nat.reduceAdd]; exact rfl) ?_) | (refine arl_nil ?_) | (refine aw_skip ?_) | (refine aw_block ?_) | (refine aw_exit ?_) | (refine aw_ret ?_) | (refine arl_cons rfl rfl (by simp +decide only [aop, abuiltin, aeval, aintBin, bin_int, aload_bump, SS, reduceIte, reduceCtorEq, pNilI, lit1, litS3]; exact rfl) (by first | rfl | with_reducible assumption) rfl ?_) | (refine arl_none rfl rfl (by simp +decide only [aop, abuiltin, aeval, aintBin, bin_int, aload_bump, SS, reduceIte, reduceCtorEq, pNilI, lit1, litS3]; exact rfl) rfl rfl ?_) | (refine arl_off rfl rfl ?_) | (refine aw_condT (by simp +decide only [aop, abuiltin, aeval, aintBin, bin_int, aload_bump, SS, reduceIte, reduceCtorEq, pNilI, lit1, litS3]; first | done | exact rfl) ?_) | (refine aw_condF (by simp +decide only [aop, abuiltin, aeval, aintBin, bin_int, aload_bump, SS, reduceIte, reduceCtorEq, pNilI, lit1, litS3]; first | done | exact rfl) ?_))
  refine arl_hide ?_
  intro t1 ht1
  obtain ⟨hEt1, hwt1, hnt1, hR1⟩ : Ext s1 t1 ∧ WF t1 ∧ s1.n ≤ t1.n ∧ RdE rowK t1 (fun g => s1.n ≤ g) (.sl ((s1.bump 2).n + (0 + 1 + 1 + 1 + 1)) 0 3 1) [[1], [2], [3]] := by
    subst ht1
    refine ⟨(by repeat (first | assumption | exact Keeps.refl _ _ | (refine Keeps.bumpR ?_ _) | (refine Keeps.put ?_ (by assumption) (by simp only [n_bump, n_put, n_touch, n_kill] at *; omega)))), (by repeat (first | assumption | (refine WF.bump ?_ _) | (refine WF.put ?_ (by simp only [n_bump, n_put, n_touch, n_kill] at *; omega) (by simp only [n_bump, n_put, n_touch, n_kill] at *; omega)))), by simp only [n_bump, n_put]; omega, RdE.here (get_put _ _) (by simp only [n_bump, n_put] at *; omega) rfl fun j c x hc hx => ?_⟩
    match j with
    | 0 => simp at hc hx; subst hc; subst hx; exact RdB.here [1] (by simp [St.put, St.bump]; rfl) (by first | omega | (simp only [n_bump, n_put]; omega) | (simp only [n_bump, n_put] at *; omega))
    | 1 => simp at hc hx; subst hc; subst hx; exact RdB.here [2] (by simp [St.put, St.bump]; rfl) (by first | omega | (simp only [n_bump, n_put]; omega) | (simp only [n_bump, n_put] at *; omega))
    | 2 => simp at hc hx; subst hc; subst hx; exact RdB.here [3] (by simp [St.put, St.bump]; rfl) (by first | omega | (simp only [n_bump, n_put]; omega) | (simp only [n_bump, n_put] at *; omega))
    | j + 3 => simp at hx
  clear ht1
  refine arl_call rfl rfl rfl rfl rfl rfl ((ioffer_ok hwt1 (hQ1.up hEt1) hR1 ⟨_, _, _, rfl⟩ (by omega) (by decide) (by decide) ((Apt.zero s1.n _).more hnt1) hnt1 hp1).wf (by repeat (first | assumption | (refine WF.bump ?_ _) | (refine WF.put ?_ (by simp only [n_bump, n_put, n_touch, n_kill] at *; omega) (by simp only [n_bump, n_put, n_touch, n_kill] at *; omega)))) |>.mono ?_)
  rintro r s2 ⟨hw2, hn2, hE2, hr, L2, hQ2, hA2, hL2a, hL2b⟩
  replace hr : r = .tup [i64 2, i64 261] := hr
  subst hr
  refine ⟨rfl, ?_⟩
  replace hQ2 : Que s2 p 2 false L2 [[1], [2]] := hQ2
  replace hA2 : Apt s2.n s1.n 2 L2 := hA2
  have hE2' : Ext st s2 := Keeps.call (hE1.trans hEt1) hE2 hw (fun g hg => .inr (by omega))
  have hN2 := hE2'.n
  repeat (first | (refine aw_seq ?_) | (refine aw_reg0 (by simp only [SZ, Nat.reduceAdd]; exact rfl) ?_) | (refine aw_reg (by decide +kernel) (by simp only [SZ, Nat.reduceAdd]; exact rfl) ?_) | (refine aw_regS (by decide +kernel) (by simp only [SZ, Nat.reduceAdd]; exact rfl) ?_) | (refine arl_nil ?_) | (refine aw_skip ?_) | (refine aw_block ?_) | (refine aw_exit ?_) | (refine aw_ret ?_) | (refine arl_cons rfl rfl (by simp +decide only [aop, abuiltin, aeval, aintBin, bin_int, aload_bump, SS, reduceIte, reduceCtorEq]; exact rfl) (by first | rfl | with_reducible assumption) rfl ?_) | (refine arl_none rfl rfl (by simp +decide only [aop, abuiltin, aeval, aintBin, bin_int, aload_bump, SS, reduceIte, reduceCtorEq]; exact rfl) rfl rfl ?_) | (refine arl_off rfl rfl ?_) | (refine aw_condT (by simp +decide only [aop, abuiltin, aeval, aintBin, bin_int, aload_bump, SS, reduceIte, reduceCtorEq]; first | done | exact rfl) ?_) | (refine aw_condF (by simp +decide only [aop, abuiltin, aeval, aintBin, bin_int, aload_bump, SS, reduceIte, reduceCtorEq]; first | done | exact rfl) ?_))
  refine arl_call rfl rfl rfl rfl rfl rfl ((itake_ok (hQ2.up (by repeat (first | exact Keeps.refl _ _ | (refine Keeps.bumpR ?_ _))))).wf (by repeat (first | assumption | (refine WF.bump ?_ _) | (refine WF.put ?_ (by simp only [n_bump, n_put, n_touch, n_kill] at *; omega) (by simp only [n_bump, n_put, n_touch, n_kill] at *; omega)))) |>.mono ?_)
  rintro r s3 ⟨hw3, hn3, hE3, c1, rfl, hc1, hQ3⟩
  have hc1s := hc1.solid
  refine ⟨by simp [AV.solid, hc1s], ?_⟩
  replace hE3 : Keeps (fun g => g = p) s2 s3 := Keeps.trans (Keeps.mono (G := fun _ => False) (show Ext s2 _ from (by repeat (first | exact Keeps.refl _ _ | (refine Keeps.bumpR ?_ _)))) (fun _ h => h.elim)) hE3
  have hE3' : Ext st s3 := Keeps.call hE2' hE3 hw (fun g hg => .inr (by omega))
  have hN3 := hE3.n
  repeat (first | (refine aw_seq ?_) | (refine aw_reg0 (by simp only [SZ, Nat.reduceAdd]; exact rfl) ?_) | (refine aw_reg (by decide +kernel) (by simp only [SZ, Nat.reduceAdd]; exact rfl) ?_) | (refine aw_regS (by decide +kernel) (by simp only [SZ, Nat.reduceAdd]; exact rfl) ?_) | (refine arl_nil ?_) | (refine aw_skip ?_) | (refine aw_block ?_) | (refine aw_exit ?_) | (refine aw_ret ?_) | (refine arl_cons rfl rfl (by simp +decide only [aop, abuiltin, aeval, aintBin, bin_int, aload_bump, SS, reduceIte, reduceCtorEq, lit1, litS1, hc1s]; exact rfl) (by first | rfl | with_reducible assumption) rfl ?_) | (refine arl_none rfl rfl (by simp +decide only [aop, abuiltin, aeval, aintBin, bin_int, aload_bump, SS, reduceIte, reduceCtorEq, lit1, litS1, hc1s]; exact rfl) rfl rfl ?_) | (refine arl_off rfl rfl ?_) | (refine aw_condT (by simp +decide only [aop, abuiltin, aeval, aintBin, bin_int, aload_bump, SS, reduceIte, reduceCtorEq, lit1, litS1, hc1s]; first | done | exact rfl) ?_) | (refine aw_condF (by simp +decide only [aop, abuiltin, aeval, aintBin, bin_int, aload_bump, SS, reduceIte, reduceCtorEq, lit1, litS1, hc1s]; first | done | exact rfl) ?_))
  refine arl_hide ?_
  intro t3 ht3
  obtain ⟨hEt3, hwt3, hnt3, hR3⟩ : Ext s3 t3 ∧ WF t3 ∧ s3.n ≤ t3.n ∧ RdE rowK t3 (fun g => s3.n ≤ g) (.sl (s3.n + (0 + 1 + 1)) 0 1 1) [[4]] := by
    subst ht3
    refine ⟨(by repeat (first | assumption | exact Keeps.refl _ _ | (refine Keeps.bumpR ?_ _) | (refine Keeps.put ?_ (by assumption) (by simp only [n_bump, n_put, n_touch, n_kill] at *; omega)))), (by repeat (first | assumption | (refine WF.bump ?_ _) | (refine WF.put ?_ (by simp only [n_bump, n_put, n_touch, n_kill] at *; omega) (by simp only [n_bump, n_put, n_touch, n_kill] at *; omega)))), by simp only [n_bump, n_put]; omega, RdE.here (get_put _ _) (by simp only [n_bump, n_put] at *; omega) rfl fun j c x hc hx => ?_⟩
    match j with
    | 0 => simp at hc hx; subst hc; subst hx; exact RdB.here [4] (by simp [St.put, St.bump]; rfl) (by first | omega | (simp only [n_bump, n_put]; omega) | (simp only [n_bump, n_put] at *; omega))
    | j + 1 => simp at hx
  clear ht3
  refine arl_call rfl rfl rfl rfl rfl rfl ((ioffer_ok hwt3 (hQ3.up hEt3) hR3 ⟨_, _, _, rfl⟩ (by omega) (by decide) (by decide) ((hA2.tail.more hN3).more hnt3) (by omega) hp1).wf (by repeat (first | assumption | (refine WF.bump ?_ _) | (refine WF.put ?_ (by simp only [n_bump, n_put, n_touch, n_kill] at *; omega) (by simp only [n_bump, n_put, n_touch, n_kill] at *; omega)))) |>.mono ?_)
  rintro r s4 ⟨hw4, hn4, hE4, hr, L4, hQ4, hA4, hL4a, hL4b⟩
  replace hr : r = .tup [i64 1, i64 0] := hr
  subst hr
  refine ⟨rfl, ?_⟩
  replace hQ4 : Que s4 p 2 false L4 [[2], [4]] := hQ4
  replace hA4 : Apt s4.n s1.n 2 L4 := hA4
  have hE4' : Ext st s4 := Keeps.call (hE3'.trans hEt3) hE4 hw (fun g hg => .inr (by omega))
  have hN4 := hE4'.n
  have hr20 := fun g (hg : L2 0 g) => hA2.rng 0 g (by omega) hg
  have hc14 := (hc1.up hEt3).keep hE4 (fun g hg e => by have := hr20 g hg; omega)
  repeat (first | (refine aw_seq ?_) | (refine aw_reg0 (by simp only [SZ, Nat.reduceAdd]; exact rfl) ?_) | (refine aw_reg (by decide +kernel) (by simp only [SZ, Nat.reduceAdd]; exact rfl) ?_) | (refine aw_regS (by decide +kernel) (by simp only [SZ, Nat.reduceAdd]; exact rfl) ?_) | (refine arl_nil ?_) | (refine aw_skip ?_) | (refine aw_block ?_) | (refine aw_exit ?_) | (refine aw_ret ?_) | (refine arl_cons rfl rfl (by simp +decide only [aop, abuiltin, aeval, aintBin, bin_int, aload_bump, SS, reduceIte, reduceCtorEq]; exact rfl) (by first | rfl | with_reducible assumption) rfl ?_) | (refine arl_none rfl rfl (by simp +decide only [aop, abuiltin, aeval, aintBin, bin_int, aload_bump, SS, reduceIte, reduceCtorEq]; exact rfl) rfl rfl ?_) | (refine arl_off rfl rfl ?_) | (refine aw_condT (by simp +decide only [aop, abuiltin, aeval, aintBin, bin_int, aload_bump, SS, reduceIte, reduceCtorEq]; first | done | exact rfl) ?_) | (refine aw_condF (by simp +decide only [aop, abuiltin, aeval, aintBin, bin_int, aload_bump, SS, reduceIte, reduceCtorEq]; first | done | exact rfl) ?_))
  refine arl_call rfl rfl rfl rfl rfl rfl ((iclose_ok (hQ4.up (by repeat (first | exact Keeps.refl _ _ | (refine Keeps.bumpR ?_ _))))).wf (by repeat (first | assumption | (refine WF.bump ?_ _) | (refine WF.put ?_ (by simp only [n_bump, n_put, n_touch, n_kill] at *; omega) (by simp only [n_bump, n_put, n_touch, n_kill] at *; omega)))) |>.mono ?_)
  rintro r s5 ⟨hw5, hn5, hE5, rfl, hQ5⟩
  refine ⟨rfl, ?_⟩
  replace hE5 : Keeps (fun g => g = p) s4 s5 := Keeps.trans (Keeps.mono (G := fun _ => False) (show Ext s4 _ from (by repeat (first | exact Keeps.refl _ _ | (refine Keeps.bumpR ?_ _)))) (fun _ h => h.elim)) hE5
  have hE5' : Ext st s5 := Keeps.call hE4' hE5 hw (fun g hg => .inr (by omega))
  have hN5 := hE5.n
  have hc15 := hc14.keep hE5 (fun g hg e => by have := hr20 g hg; omega)
  repeat (first | (refine aw_seq ?_) | (refine aw_reg0 (by simp only [SZ, Nat.reduceAdd]; exact rfl) ?_) | (refine aw_reg (by decide +kernel) (by simp only [SZ, Nat.reduceAdd]; exact rfl) ?_) | (refine aw_regS (by decide +kernel) (by simp only [SZ, Nat.reduceAdd]; exact rfl) ?_) | (refine arl_nil ?_) | (refine aw_skip ?_) | (refine aw_block ?_) | (refine aw_exit ?_) | (refine aw_ret ?_) | (refine arl_cons rfl rfl (by simp +decide only [aop, abuiltin, aeval, aintBin, bin_int, aload_bump, SS, reduceIte, reduceCtorEq, lit1, litS1]; exact rfl) (by first | rfl | with_reducible assumption) rfl ?_) | (refine arl_none rfl rfl (by simp +decide only [aop, abuiltin, aeval, aintBin, bin_int, aload_bump, SS, reduceIte, reduceCtorEq, lit1, litS1]; exact rfl) rfl rfl ?_) | (refine arl_off rfl rfl ?_) | (refine aw_condT (by simp +decide only [aop, abuiltin, aeval, aintBin, bin_int, aload_bump, SS, reduceIte, reduceCtorEq, lit1, litS1]; first | done | exact rfl) ?_) | (refine aw_condF (by simp +decide only [aop, abuiltin, aeval, aintBin, bin_int, aload_bump, SS, reduceIte, reduceCtorEq, lit1, litS1]; first | done | exact rfl) ?_))
  refine arl_call rfl rfl rfl rfl rfl rfl ((ioffer_shut (hQ5.up (by repeat (first | assumption | exact Keeps.refl _ _ | (refine Keeps.bumpR ?_ _) | (refine Keeps.put ?_ (by assumption) (by simp only [n_bump, n_put, n_touch, n_kill] at *; omega))))) _).wf (by repeat (first | assumption | (refine WF.bump ?_ _) | (refine WF.put ?_ (by simp only [n_bump, n_put, n_touch, n_kill] at *; omega) (by simp only [n_bump, n_put, n_touch, n_kill] at *; omega)))) |>.mono ?_)
  rintro r s6 ⟨hw6, hn6, hE6, rfl⟩
  refine ⟨by first | rfl | with_reducible assumption, ?_⟩
  replace hE6 : Ext s5 s6 := Keeps.trans (by repeat (first | assumption | exact Keeps.refl _ _ | (refine Keeps.bumpR ?_ _) | (refine Keeps.put ?_ (by assumption) (by simp only [n_bump, n_put, n_touch, n_kill] at *; omega)))) hE6
  have hN6 := hE6.n
  repeat (first | (refine aw_seq ?_) | (refine aw_reg0 (by simp only [SZ, Nat.reduceAdd]; exact rfl) ?_) | (refine aw_reg (by decide +kernel) (by simp only [SZ, Nat.reduceAdd]; exact rfl) ?_) | (refine aw_regS (by decide +kernel) (by simp only [SZ, Nat.reduceAdd]; exact rfl) ?_) | (refine arl_nil ?_) | (refine aw_skip ?_) | (refine aw_block ?_) | (refine aw_exit ?_) | (refine aw_ret ?_) | (refine arl_cons rfl rfl (by simp +decide only [aop, abuiltin, aeval, aintBin, bin_int, aload_bump, SS, reduceIte, reduceCtorEq]; exact rfl) (by first | rfl | with_reducible assumption) rfl ?_) | (refine arl_none rfl rfl (by simp +decide only [aop, abuiltin, aeval, aintBin, bin_int, aload_bump, SS, reduceIte, reduceCtorEq]; exact rfl) rfl rfl ?_) | (refine arl_off rfl rfl ?_) | (refine aw_condT (by simp +decide only [aop, abuiltin, aeval, aintBin, bin_int, aload_bump, SS, reduceIte, reduceCtorEq]; first | done | exact rfl) ?_) | (refine aw_condF (by simp +decide only [aop, abuiltin, aeval, aintBin, bin_int, aload_bump, SS, reduceIte, reduceCtorEq]; first | done | exact rfl) ?_))
  refine arl_call rfl rfl rfl rfl rfl rfl ((itake_ok ((hQ5.up hE6).up (by repeat (first | exact Keeps.refl _ _ | (refine Keeps.bumpR ?_ _))))).wf (by repeat (first | assumption | (refine WF.bump ?_ _) | (refine WF.put ?_ (by simp only [n_bump, n_put, n_touch, n_kill] at *; omega) (by simp only [n_bump, n_put, n_touch, n_kill] at *; omega)))) |>.mono ?_)
  rintro r s7 ⟨hw7, hn7, hE7, c2, rfl, hc2, hQ7⟩
  have hc2s := hc2.solid
  refine ⟨by simp [AV.solid, hc2s], ?_⟩
  replace hE7 : Keeps (fun g => g = p) s6 s7 := Keeps.trans (Keeps.mono (G := fun _ => False) (show Ext s6 _ from (by repeat (first | exact Keeps.refl _ _ | (refine Keeps.bumpR ?_ _)))) (fun _ h => h.elim)) hE7
  have hE7' : Ext st s7 := Keeps.call (hE5'.trans hE6) hE7 hw (fun g hg => .inr (by omega))
  have hc17 := (hc15.up hE6).keep hE7 (fun g hg e => by have := hr20 g hg; omega)
  have hl1 := hc17.rd.len
  have hl2 := hc2.rd.len
  obtain ⟨e0, a1, a2, a3⟩ := hc17.rd.atN .i64 0 (by decide)
  replace a1 : aindexAddr Try.prog BT c1 (i64 0) = some e0 := a1
  obtain ⟨e1, b1, b2, b3⟩ := hc2.rd.atN .i64 0 (by decide)
  replace b1 : aindexAddr Try.prog BT c2 (i64 0) = some e1 := b1
  repeat (first | (refine aw_seq ?_) | (refine aw_reg0 (by simp only [SZ, Nat.reduceAdd]; exact rfl) ?_) | (refine aw_reg (by decide +kernel) (by simp only [SZ, Nat.reduceAdd]; exact rfl) ?_) | (refine aw_regS (by decide +kernel) (by simp only [SZ, Nat.reduceAdd]; exact rfl) ?_) | (refine arl_nil ?_) | (refine aw_skip ?_) | (refine aw_block ?_) | (refine aw_exit ?_) | (refine aw_ret ?_) | (refine arl_cons rfl rfl (by simp +decide only [aop, abuiltin, aeval, aintBin, bin_int, aload_bump, SS, reduceIte, reduceCtorEq, hc1s, hc2s, hl1, hl2, a1, a3, b1, b3]; exact rfl) (by first | rfl | with_reducible assumption) rfl ?_) | (refine arl_none rfl rfl (by simp +decide only [aop, abuiltin, aeval, aintBin, bin_int, aload_bump, SS, reduceIte, reduceCtorEq, hc1s, hc2s, hl1, hl2, a1, a3, b1, b3]; exact rfl) rfl rfl ?_) | (refine arl_off rfl rfl ?_) | (refine aw_condT (by simp +decide only [aop, abuiltin, aeval, aintBin, bin_int, aload_bump, SS, reduceIte, reduceCtorEq, hc1s, hc2s, hl1, hl2, a1, a3, b1, b3]; first | done | exact rfl) ?_) | (refine aw_condF (by simp +decide only [aop, abuiltin, aeval, aintBin, bin_int, aload_bump, SS, reduceIte, reduceCtorEq, hc1s, hc2s, hl1, hl2, a1, a3, b1, b3]; first | done | exact rfl) ?_))
  exact ⟨.inr rfl, _, rfl, hE7'.trans (by repeat (first | exact Keeps.refl _ _ | (refine Keeps.bumpR ?_ _))), rfl⟩
end Go.Proofs.Ytlindddionbpkaa.Ra
