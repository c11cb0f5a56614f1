/- leatlaw05.TokenMakes. -/
import Derived.Test.YthjfncppiffnmaaDoorTl
namespace Go.Proofs.YthjfncppiffnmaaDoor.Ra
open Go Go.RowKit
set_option linter.unusedVariables false
set_option linter.unusedSimpArgs false
set_option maxRecDepth 10000
theorem expd_bad (most : Int) : ∀ (f : Nat) (b out : List Int), (expd most f b out).1 ≠ 0 → (expd most f b out).2 = [] := by
  intro f
  induction f with
  | zero => intro b out h; exact absurd rfl h
  | succ f ih =>
    intro b out h
    rw [expd] at h ⊢
    split
    · rename_i h1; rw [if_pos h1] at h; exact absurd rfl h
    · rename_i h1
      rw [if_neg h1] at h
      split
      · rfl
      · rename_i h2
        rw [if_neg h2] at h
        split
        · rfl
        · rename_i h3
          rw [if_neg h3] at h
          exact ih _ _ h
theorem run_bad (most : Int) : ∀ (ts : List Tok) (out : List Int), (run most ts out).1 ≠ 0 → (run most ts out).2 = [] := by
  intro ts
  induction ts with
  | nil => intro out h; exact absurd rfl h
  | cons t ts ih =>
    intro out h
    rw [run] at h ⊢
    split
    · rename_i h1; rw [if_pos h1] at h; exact ih _ h
    · rfl
theorem pars_expd (most : Int) : ∀ (f : Nat) (b out : List Int) (acc : List Tok), b.length ≤ f → (∀ x ∈ b, 0 ≤ x ∧ x < 256) →
    ((pars b.length b acc).1 ≠ 0 → (expd most b.length b out).1 ≠ 0) ∧ ((pars b.length b acc).1 = 0 → ∃ ts, (pars b.length b acc).2 = acc ++ ts ∧ expd most b.length b out = run most ts out ∧ ∀ t ∈ ts, t.1.length ≤ 128) := by
  intro f
  induction f with
  | zero =>
    intro b out acc hf _
    have : b = [] := List.eq_nil_of_length_eq_zero (by omega)
    subst this
    exact ⟨fun h => absurd rfl h, fun _ => ⟨[], by simp [pars], rfl, by simp⟩⟩
  | succ f ih =>
    intro b out acc hf hby
    by_cases hne : b = []
    · subst hne
      exact ⟨fun h => absurd rfl h, fun _ => ⟨[], by simp [pars], rfl, by simp⟩⟩
    · rw [pars_step b acc hby hne, expd_step most b out hby hne]
      by_cases h1 : (one b).1 ≠ 0
      · rw [if_pos h1, if_pos h1]
        exact ⟨fun h => h, fun h => absurd h h1⟩
      · rw [if_neg h1, if_neg h1]
        have h1' : (one b).1 = 0 := by simpa using h1
        obtain ⟨k1, k2, k3⟩ := one_len h1' hby
        by_cases h2 : (carry out (one b).2.1 (bnd most)).1 ≠ 0
        · rw [if_pos h2]
          refine ⟨fun _ => h2, fun h => ?_⟩
          obtain ⟨i1, i2⟩ := ih (b.drop (one b).2.2) [] (acc ++ [(one b).2.1]) (by rw [List.length_drop]; omega) (fun x hx => hby x (List.mem_of_mem_drop hx))
          obtain ⟨ts, j1, j2, j3⟩ := i2 h
          refine ⟨(one b).2.1 :: ts, by rw [j1]; simp, ?_, fun t ht => ?_⟩
          · rw [run, if_neg h2]
          · rcases List.mem_cons.1 ht with rfl | ht
            · exact k3
            · exact j3 t ht
        · rw [if_neg h2]
          obtain ⟨i1, i2⟩ := ih (b.drop (one b).2.2) (carry out (one b).2.1 (bnd most)).2 (acc ++ [(one b).2.1]) (by rw [List.length_drop]; omega) (fun x hx => hby x (List.mem_of_mem_drop hx))
          refine ⟨i1, fun h => ?_⟩
          obtain ⟨ts, j1, j2, j3⟩ := i2 h
          refine ⟨(one b).2.1 :: ts, by rw [j1]; simp, ?_, fun t ht => ?_⟩
          · rw [j2, run, if_pos (by simpa using h2)]
          · rcases List.mem_cons.1 ht with rfl | ht
            · exact k3
            · exact j3 t ht
theorem cp_prefix (d : Nat) (o : List Int) (n : Nat) : o <+: cp d o n := by
  induction n with
  | zero => exact List.prefix_refl o
  | succ n ih => exact ih.trans (List.prefix_append _ _)
theorem carry_prefix {o : List Int} {t : Tok} {m : Int} (h : (carry o t m).1 = 0) : o <+: (carry o t m).2 ∧ (carry o t m).2 = cp t.2.1.toNat (o ++ t.1) t.2.2.toNat ∧ ¬ ill t = true ∧ t.2.1 ≤ o.length := by
  unfold carry at h ⊢
  by_cases h1 : ill t = true ∨ t.2.1 > (o.length : Int)
  · rw [if_pos h1] at h; cases h
  · rw [if_neg h1] at h ⊢
    by_cases h2 : (o.length : Int) + t.1.length + t.2.2 > m
    · rw [if_pos h2] at h; cases h
    · rw [if_neg h2]
      exact ⟨(List.prefix_append o t.1).trans (cp_prefix _ _ _), rfl, fun h => h1 (.inl h), by have : ¬ t.2.1 > (o.length : Int) := fun h => h1 (.inr h); omega⟩
theorem run_prefix (most : Int) : ∀ (ts : List Tok) (o : List Int), (run most ts o).1 = 0 → o <+: (run most ts o).2 := by
  intro ts
  induction ts with
  | nil => intro o _; exact List.prefix_refl o
  | cons t ts ih =>
    intro o h
    rw [run] at h ⊢
    split
    · rename_i h1
      rw [if_pos h1] at h
      exact (carry_prefix h1).1.trans (ih _ h)
    · rename_i h1
      rw [if_neg h1] at h
      exact absurd h h1
theorem run_most (most : Int) : ∀ (ts : List Tok) (o : List Int), (run most ts o).1 = 0 → (o.length : Int) ≤ bnd most → ((run most ts o).2.length : Int) ≤ bnd most := by
  intro ts
  induction ts with
  | nil => intro o _ h; exact h
  | cons t ts ih =>
    intro o h ho
    rw [run] at h ⊢
    split
    · rename_i h1
      rw [if_pos h1] at h
      have := carry_len h1
      have hb := bnd_range most
      exact ih _ h (by omega)
    · rename_i h1
      rw [if_neg h1] at h
      exact absurd h h1
theorem pre_getD {a b : List Int} (h : a <+: b) {j : Nat} (hj : j < a.length) : b.getD j 0 = a.getD j 0 := by
  obtain ⟨r, rfl⟩ := h
  exact getD_left hj
theorem cp_rec {d : Nat} {o : List Int} (h1 : 1 ≤ d) (h2 : d ≤ o.length) : ∀ n i, i < n → (cp d o n).getD (o.length + i) 0 = (cp d o n).getD (o.length + i - d) 0 := by
  intro n
  induction n with
  | zero => intro i hi; omega
  | succ n ih =>
    intro i hi
    by_cases hin : i < n
    · rw [cp, getD_left (by rw [cp_len]; omega), getD_left (by rw [cp_len]; omega), ih i hin]
    · obtain rfl : i = n := by omega
      have e := getD_at (l := cp d o i) (x := (cp d o i).getD ((cp d o i).length - d) 0)
      rw [cp_len] at e
      rw [cp, cp_len, e, getD_left (by rw [cp_len]; omega)]
end Go.Proofs.YthjfncppiffnmaaDoor.Ra
