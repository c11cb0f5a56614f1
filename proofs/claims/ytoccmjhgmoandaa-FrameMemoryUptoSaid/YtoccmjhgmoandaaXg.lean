/- leatref17: Alike, All; cuts of rows of rows. -/
import Derived.Test.YtoccmjhgmoandaaXf
namespace Go.Proofs.Ytoccmjhgmoandaa.Ra
open Go Go.RowKit
set_option linter.unusedVariables false
set_option linter.unusedSimpArgs false
set_option maxRecDepth 10000
abbrev TRr : TF Try.prog 22 BT rowK.s 24 := TR
theorem uBB : Try.prog.underlying 22 = some (.slice BT) := Try.underlying22
theorem RdE.from_ {st : St} {K : Nat → Prop} {v : AV} {xs : List (List Int)} (h : RdE rowK st K v xs) (n : Nat) (hn : n ≤ xs.length) : ∃ v', aslice Try.prog 22 v (some (i64 n)) none = some v' ∧ v'.solid = true ∧ RdE rowK st K v' (xs.drop n) := by
  rcases h with ⟨h1, ⟨q, c, rfl⟩ | ⟨i, off, b, rfl⟩⟩ | ⟨i, off, b, o, rfl, h2, h3, h4, h5⟩
  · subst h1
    simp only [List.length_nil] at hn
    obtain rfl : n = 0 := by omega
    exact ⟨.pl (.slice q 0 c), by simp only [aslice, uBB, szB, ahigh, alow]; rfl, rfl, .inl ⟨rfl, .inl ⟨_, _, rfl⟩⟩⟩
  · subst h1
    simp only [List.length_nil] at hn
    obtain rfl : n = 0 := by omega
    refine ⟨.sl i (off + 0 * 1) (0 - 0) (bif b then 1 else 0), ?_, rfl, .inl ⟨rfl, .inr ⟨i, _, b, rfl⟩⟩⟩
    simp only [aslice, uBB, szB, ahigh, alow, rowK]
    cases b <;> rfl
  · have hs : rowK.s = 1 := rfl
    rw [hs] at h4 h5 ⊢
    refine ⟨.sl i (off + n * 1) (xs.length - n) (bif b then 1 else 0), ?_, rfl, .inr ⟨i, off + n, b, o, by rw [List.length_drop, Nat.mul_one]; rfl, h2, h3, by rw [List.length_drop, hs]; omega, fun j x hx => ?_⟩⟩
    · simp only [aslice, uBB, szB, ahigh, alow]
      rw [if_pos ⟨by omega, by omega⟩]
      cases b <;> simp
    · rw [List.getElem?_drop] at hx
      have := h5 (n + j) x hx
      rw [hs]
      rw [show off + (n + j) * 1 = off + n + j * 1 by omega] at this
      exact this
set_option maxHeartbeats 1000000 in
theorem ralike_ok {st : St} (hw : WF st) {K K' : Nat → Prop} {v u : AV} {ts : List (List Int)} (h : RdE rowK st K v ts) (h' : RdE rowK st K' u ts) (hl : ts.length ≤ 140737488355327) (hll : ∀ t ∈ ts, t.length ≤ 140737488355327) :
    ACalls Try.prog 16 [v, u] st (fun r s => Ext st s ∧ r = .pl (.bool true)) := by
  have hvs := h.solid
  have hus := h'.solid
  have hln := RdE.len h TRr
  have hln' := RdE.len h' TRr
  have hbq : ((ts.length : Int) != (ts.length : Int)) = false := by simp
  refine acalls_of Try.func16 rfl (by kernel_rfl) (by simp [hvs, hus]) ?_
  repeat (first | (refine aw_seq ?_) | (refine aw_reg0 (by simp only [SZ, Nat.reduceAdd]; exact rfl) ?_) | (refine aw_reg (by decide +kernel) (by simp only [SZ, Nat.reduceAdd]; exact rfl) ?_) | (refine aw_regS (by decide +kernel) (by simp only [SZ, Nat.reduceAdd]; exact rfl) ?_) | (refine arl_nil ?_) | (refine aw_skip ?_) | (refine aw_block ?_) | (refine aw_exit ?_) | (refine aw_ret ?_) | (refine arl_cons rfl rfl (by simp +decide only [aop, abuiltin, aeval, aintBin, bin_int, aload_bump, SS, reduceIte, reduceCtorEq, hln, hln', hbq]; exact rfl) (by first | rfl | with_reducible assumption) rfl ?_) | (refine arl_none rfl rfl (by simp +decide only [aop, abuiltin, aeval, aintBin, bin_int, aload_bump, SS, reduceIte, reduceCtorEq, hln, hln', hbq]; exact rfl) rfl rfl ?_) | (refine arl_off rfl rfl ?_) | (refine aw_condT (by simp +decide only [aop, abuiltin, aeval, aintBin, bin_int, aload_bump, SS, reduceIte, reduceCtorEq, hln, hln', hbq]; first | done | exact rfl) ?_) | (refine aw_condF (by simp +decide only [aop, abuiltin, aeval, aintBin, bin_int, aload_bump, SS, reduceIte, reduceCtorEq, hln, hln', hbq]; first | done | exact rfl) ?_))
  refine aw_rounds_wf (fun m fr s => Ext st s ∧ ∃ k : Nat, k ≤ ts.length ∧ m = ts.length - k ∧ fr 0 = v ∧ fr 1 = u ∧ fr 5 = i64 k) ?_ ts.length _ _ (by repeat (first | assumption | (refine WF.bump ?_ _))) ?_
  · rintro m fr sx hws ⟨hE, k, hk, rfl, f0, f1, f5⟩
    have hEn := hE.n
    by_cases hlt : k < ts.length
    · have hd : decide ((k : Int) < (ts.length : Int)) = true := decide_eq_true (by omega)
      obtain ⟨p, c, a1, a2, a3, a4, a5⟩ := row_at (h.up hE) .i64 k hlt
      obtain ⟨p', c', b1, b2, b3, b4, b5⟩ := row_at (h'.up hE) .i64 k hlt
      have hwk := wrap_succ (k := k) (by omega)
      have hcs := a5.solid
      have hcs' := b5.solid
      repeat (first | (refine aw_seq ?_) | (refine aw_reg0 (by simp only [SZ, Nat.reduceAdd]; exact rfl) ?_) | (refine aw_reg (by decide +kernel) (by simp only [SZ, Nat.reduceAdd]; exact rfl) ?_) | (refine aw_regS (by decide +kernel) (by simp only [SZ, Nat.reduceAdd]; exact rfl) ?_) | (refine arl_nil ?_) | (refine aw_skip ?_) | (refine aw_block ?_) | (refine aw_exit ?_) | (refine aw_ret ?_) | (refine arl_cons rfl rfl (by simp +decide only [aop, abuiltin, aeval, aintBin, bin_int, aload_bump, SS, reduceIte, reduceCtorEq, f0, f1, f5, hln, hd, a1, a3, b1, b3]; exact rfl) (by first | rfl | with_reducible assumption) rfl ?_) | (refine arl_none rfl rfl (by simp +decide only [aop, abuiltin, aeval, aintBin, bin_int, aload_bump, SS, reduceIte, reduceCtorEq, f0, f1, f5, hln, hd, a1, a3, b1, b3]; exact rfl) rfl rfl ?_) | (refine arl_off rfl rfl ?_) | (refine aw_condT (by simp +decide only [aop, abuiltin, aeval, aintBin, bin_int, aload_bump, SS, reduceIte, reduceCtorEq, f0, f1, f5, hln, hd, a1, a3, b1, b3]; first | done | exact rfl) ?_) | (refine aw_condF (by simp +decide only [aop, abuiltin, aeval, aintBin, bin_int, aload_bump, SS, reduceIte, reduceCtorEq, f0, f1, f5, hln, hd, a1, a3, b1, b3]; first | done | exact rfl) ?_))
      refine arl_call rfl rfl rfl rfl rfl rfl ((same_self (by repeat (first | assumption | (refine WF.bump ?_ _))) (a5.up (by repeat (first | exact Keeps.refl _ _ | (refine Keeps.bumpR ?_ _)))) (b5.up (by repeat (first | exact Keeps.refl _ _ | (refine Keeps.bumpR ?_ _)))) (hll _ (List.getElem_mem hlt))).wf (by repeat (first | assumption | (refine WF.bump ?_ _) | (refine WF.put ?_ (by simp only [n_bump, n_put, n_touch, n_kill] at *; omega) (by simp only [n_bump, n_put, n_touch, n_kill] at *; omega)))) |>.mono ?_)
      rintro r s1 ⟨hw1, hn1, hE1, rfl⟩
      refine ⟨by first | rfl | with_reducible assumption, ?_⟩
      replace hE1 : Ext sx s1 := Keeps.trans (by repeat (first | assumption | exact Keeps.refl _ _ | (refine Keeps.bumpR ?_ _) | (refine Keeps.put ?_ (by assumption) (by simp only [n_bump, n_put, n_touch, n_kill] at *; omega)))) hE1
      have hN1 := hE1.n
      repeat (first | (refine aw_seq ?_) | (refine aw_reg0 (by simp only [SZ, Nat.reduceAdd]; exact rfl) ?_) | (refine aw_reg (by decide +kernel) (by simp only [SZ, Nat.reduceAdd]; exact rfl) ?_) | (refine aw_regS (by decide +kernel) (by simp only [SZ, Nat.reduceAdd]; exact rfl) ?_) | (refine arl_nil ?_) | (refine aw_skip ?_) | (refine aw_block ?_) | (refine aw_exit ?_) | (refine aw_ret ?_) | (refine arl_cons rfl rfl (by simp +decide only [aop, abuiltin, aeval, aintBin, bin_int, aload_bump, SS, reduceIte, reduceCtorEq, f5, hwk]; exact rfl) (by first | rfl | with_reducible assumption) rfl ?_) | (refine arl_none rfl rfl (by simp +decide only [aop, abuiltin, aeval, aintBin, bin_int, aload_bump, SS, reduceIte, reduceCtorEq, f5, hwk]; exact rfl) rfl rfl ?_) | (refine arl_off rfl rfl ?_) | (refine aw_condT (by simp +decide only [aop, abuiltin, aeval, aintBin, bin_int, aload_bump, SS, reduceIte, reduceCtorEq, f5, hwk]; first | done | exact rfl) ?_) | (refine aw_condF (by simp +decide only [aop, abuiltin, aeval, aintBin, bin_int, aload_bump, SS, reduceIte, reduceCtorEq, f5, hwk]; first | done | exact rfl) ?_))
      exact ⟨ts.length - (k + 1), by omega, (hE.trans hE1).trans (by repeat (first | exact Keeps.refl _ _ | (refine Keeps.bumpR ?_ _))), k + 1, by omega, rfl, f0, f1, rfl⟩
    · have hd : decide ((k : Int) < (ts.length : Int)) = false := decide_eq_false (by omega)
      repeat (first | (refine aw_seq ?_) | (refine aw_reg0 (by simp only [SZ, Nat.reduceAdd]; exact rfl) ?_) | (refine aw_reg (by decide +kernel) (by simp only [SZ, Nat.reduceAdd]; exact rfl) ?_) | (refine aw_regS (by decide +kernel) (by simp only [SZ, Nat.reduceAdd]; exact rfl) ?_) | (refine arl_nil ?_) | (refine aw_skip ?_) | (refine aw_block ?_) | (refine aw_exit ?_) | (refine aw_ret ?_) | (refine arl_cons rfl rfl (by simp +decide only [aop, abuiltin, aeval, aintBin, bin_int, aload_bump, SS, reduceIte, reduceCtorEq, f0, f5, hln, hd]; exact rfl) (by first | rfl | with_reducible assumption) rfl ?_) | (refine arl_none rfl rfl (by simp +decide only [aop, abuiltin, aeval, aintBin, bin_int, aload_bump, SS, reduceIte, reduceCtorEq, f0, f5, hln, hd]; exact rfl) rfl rfl ?_) | (refine arl_off rfl rfl ?_) | (refine aw_condT (by simp +decide only [aop, abuiltin, aeval, aintBin, bin_int, aload_bump, SS, reduceIte, reduceCtorEq, f0, f5, hln, hd]; first | done | exact rfl) ?_) | (refine aw_condF (by simp +decide only [aop, abuiltin, aeval, aintBin, bin_int, aload_bump, SS, reduceIte, reduceCtorEq, f0, f5, hln, hd]; first | done | exact rfl) ?_))
      exact ⟨.inr rfl, _, rfl, hE.trans (by repeat (first | exact Keeps.refl _ _ | (refine Keeps.bumpR ?_ _))), rfl⟩
  · exact ⟨(by repeat (first | exact Keeps.refl _ _ | (refine Keeps.bumpR ?_ _))), 0, by omega, rfl, rfl, rfl, rfl⟩
end Go.Proofs.Ytoccmjhgmoandaa.Ra
