/- leatlaw05.TokenBack. -/
import Derived.Test.YthjfncppiffnmaaDoorTk
namespace Go.Proofs.YthjfncppiffnmaaDoor.Ra
open Go Go.RowKit
set_option linter.unusedVariables false
set_option linter.unusedSimpArgs false
set_option maxRecDepth 10000
/- What is read is what is written of it. -/
theorem one_enc {b : List Int} (h : (one b).1 = 0) (hne : b ≠ []) (hby : ∀ x ∈ b, 0 ≤ x ∧ x < 256) : ¬ ill (one b).2.1 = true ∧ enc (one b).2.1 = b.take (one b).2.2 := by
  obtain ⟨c, r, rfl⟩ : ∃ c r, b = c :: r := by
    cases b with
    | nil => exact absurd rfl hne
    | cons c r => exact ⟨c, r, rfl⟩
  have hc := hby c (by simp)
  have hg0 : (c :: r).getD 0 0 = c := rfl
  unfold one at h ⊢
  rw [hg0] at h ⊢
  by_cases h1 : c < 128
  · rw [if_pos h1] at h ⊢
    by_cases h2 : ((c :: r).length : Int) < c + 2
    · rw [if_pos h2] at h; cases h
    · rw [if_neg h2]
      obtain ⟨k, rfl⟩ : ∃ k : Nat, c = k := ⟨c.toNat, by omega⟩
      simp only [List.length_cons] at h2
      rw [Int.toNat_natCast]
      have hl : ((((k : Int) :: r).drop 1).take (k + 1)).length = k + 1 := by simp; omega
      have hcp : cop ((((k : Int) :: r).drop 1).take (k + 1), 0, 0) = false := by simp [cop]
      refine ⟨?_, ?_⟩
      · unfold ill
        rw [if_neg (by rw [hcp]; simp)]
        simp only [decide_eq_true_eq, hl]
        omega
      · unfold enc
        rw [if_neg (by rw [hcp]; simp)]
        simp only [hl]
        rw [show ((k + 1 : Nat) : Int) - 1 = k by omega]
        rfl
  · rw [if_neg h1] at h ⊢
    by_cases h2 : (c :: r).length < 3
    · rw [if_pos h2] at h; cases h
    · rw [if_neg h2] at h ⊢
      split at h
      · cases h
      · rename_i h3
        rw [if_neg h3]
        refine ⟨h3, ?_⟩
        obtain ⟨x, y, r', rfl⟩ : ∃ x y r', r = x :: y :: r' := by
          match r, h2 with
          | x :: y :: r', _ => exact ⟨x, y, r', rfl⟩
          | [x], h => simp at h
          | [], h => simp at h
        have hx := hby x (by simp)
        have hy := hby y (by simp)
        have hcp : cop (([] : List Int), x * 256 + y, c - 124) = true := by simp [cop]; omega
        show enc ([], x * 256 + y, c - 124) = [c, x, y]
        unfold enc
        rw [if_pos hcp]
        simp only [List.cons.injEq, and_true]
        omega
theorem pars_pr : ∀ (f : Nat) (b : List Int) (acc : List Tok), b.length ≤ f → (∀ x ∈ b, 0 ≤ x ∧ x < 256) → (pars b.length b acc).1 = 0 → ∃ ts, (pars b.length b acc).2 = acc ++ ts ∧ ∀ out, pr ts out = (0, out ++ b) := by
  intro f
  induction f with
  | zero =>
    intro b acc hf _ _
    have : b = [] := List.eq_nil_of_length_eq_zero (by omega)
    subst this
    exact ⟨[], by simp [pars], fun out => by simp [pr]⟩
  | succ f ih =>
    intro b acc hf hby h
    by_cases hne : b = []
    · subst hne
      exact ⟨[], by simp [pars], fun out => by simp [pr]⟩
    · rw [pars_step b acc hby hne] at h ⊢
      by_cases h1 : (one b).1 ≠ 0
      · rw [if_pos h1] at h
        exact absurd h h1
      · rw [if_neg h1] at h ⊢
        have h1' : (one b).1 = 0 := by simpa using h1
        obtain ⟨k1, k2, k3⟩ := one_len h1' hby
        obtain ⟨e1, e2⟩ := one_enc h1' hne hby
        obtain ⟨ts, h3, h4⟩ := ih (b.drop (one b).2.2) (acc ++ [(one b).2.1]) (by rw [List.length_drop]; omega) (fun x hx => hby x (List.mem_of_mem_drop hx)) h
        refine ⟨(one b).2.1 :: ts, by rw [h3]; simp, fun out => ?_⟩
        rw [pr, if_neg e1, h4, e2, List.append_assoc, List.take_append_drop]
/- What is written is read back. -/
theorem enc_one {t : Tok} (h : ¬ ill t = true) (hby : ∀ x ∈ t.1, 0 ≤ x ∧ x < 256) (r : List Int) : one (enc t ++ r) = (0, t, (enc t).length) := by
  obtain ⟨lit, d, n⟩ := t
  have hi := h
  obtain ⟨r1, r2, r3, r4, r5, r6⟩ := ill_range h
  simp only at r1 r2 r3 r4 r5 r6
  unfold ill at h
  by_cases hcp : cop (lit, d, n) = true
  · rw [if_pos hcp] at h
    simp only [decide_eq_true_eq] at h
    have hnil : lit = [] := List.eq_nil_of_length_eq_zero (by omega)
    subst hnil
    have he : enc ([], d, n) = [124 + n, d / 256, d % 256] := by unfold enc; rw [if_pos hcp]
    rw [he]
    have e1 : d / 256 * 256 + d % 256 = d := by omega
    have e2 : 124 + n - 124 = n := by omega
    show one ((124 + n) :: (d / 256) :: (d % 256) :: r) = _
    unfold one
    show (if (124 + n) < 128 then _ else _) = _
    rw [if_neg (by omega), if_neg (by simp)]
    show (if ill ([], d / 256 * 256 + d % 256, 124 + n - 124) = true then _ else (0, (([] : List Int), d / 256 * 256 + d % 256, 124 + n - 124), 3)) = _
    rw [e1, e2, if_neg hi]
    rfl
  · rw [if_neg hcp] at h
    simp only [decide_eq_true_eq] at h
    have h0 : d = 0 ∧ n = 0 := by
      simp only [cop, decide_eq_true_eq] at hcp
      omega
    obtain ⟨rfl, rfl⟩ := h0
    have he : enc (lit, 0, 0) = ((lit.length : Int) - 1) :: lit := by unfold enc; rw [if_neg hcp]
    rw [he]
    unfold one
    show (if ((lit.length : Int) - 1) < 128 then (if (((((lit.length : Int) - 1) :: lit) ++ r).length : Int) < ((lit.length : Int) - 1) + 2 then _ else (0, ((lit ++ r).take (((lit.length : Int) - 1).toNat + 1), 0, 0), ((lit.length : Int) - 1).toNat + 2)) else _) = _
    rw [if_pos (by omega), if_neg (by simp; omega)]
    have e : ((lit.length : Int) - 1).toNat + 1 = lit.length := by omega
    rw [e, List.take_left]
    simp only [List.length_cons, Prod.mk.injEq, true_and]
    omega
theorem pr_all : ∀ (ts : List Tok) (out : List Int), (pr ts out).1 = 0 → (∀ t ∈ ts, ¬ ill t = true) ∧ (pr ts out).2 = out ++ (ts.map enc).flatten := by
  intro ts
  induction ts with
  | nil => intro out _; simp [pr]
  | cons t ts ih =>
    intro out h
    rw [pr] at h ⊢
    by_cases hi : ill t = true
    · rw [if_pos hi] at h; cases h
    · rw [if_neg hi] at h ⊢
      obtain ⟨h1, h2⟩ := ih _ h
      refine ⟨fun u hu => ?_, by rw [h2]; simp⟩
      rcases List.mem_cons.1 hu with rfl | hu
      · exact hi
      · exact h1 u hu
theorem enc_by {t : Tok} (h : ¬ ill t = true) (hby : ∀ x ∈ t.1, 0 ≤ x ∧ x < 256) : ∀ x ∈ enc t, 0 ≤ x ∧ x < 256 := by
  obtain ⟨r1, r2, r3, r4, r5, r6⟩ := ill_range h
  intro x hx
  unfold enc at hx
  split at hx
  · simp only [List.mem_cons, List.not_mem_nil, or_false] at hx
    rcases hx with rfl | rfl | rfl <;> omega
  · rename_i hcp
    unfold ill at h
    rw [if_neg hcp] at h
    simp only [decide_eq_true_eq] at h
    rcases List.mem_cons.1 hx with rfl | hx
    · omega
    · exact hby x hx
theorem enc_ne (t : Tok) : enc t ≠ [] := by
  unfold enc
  split <;> simp
theorem pars_enc : ∀ (ts acc : List Tok), (∀ t ∈ ts, ¬ ill t = true) → (∀ t ∈ ts, ∀ x ∈ t.1, 0 ≤ x ∧ x < 256) → pars (ts.map enc).flatten.length (ts.map enc).flatten acc = (0, acc ++ ts) := by
  intro ts
  induction ts with
  | nil => intro acc _ _; simp [pars]
  | cons t ts ih =>
    intro acc h hby
    have hby2 : ∀ x ∈ ((t :: ts).map enc).flatten, 0 ≤ x ∧ x < 256 := by
      intro x hx
      obtain ⟨l, h1, h2⟩ := List.mem_flatten.1 hx
      obtain ⟨u, h3, rfl⟩ := List.mem_map.1 h1
      exact enc_by (h u h3) (hby u h3) x h2
    have hne : ((t :: ts).map enc).flatten ≠ [] := by
      rw [List.map_cons, List.flatten_cons]
      intro e
      exact enc_ne t (List.append_eq_nil_iff.1 e).1
    rw [pars_step _ acc hby2 hne]
    rw [List.map_cons, List.flatten_cons, enc_one (h t (by simp)) (hby t (by simp))]
    rw [if_neg (by simp)]
    simp only [List.drop_left]
    rw [ih _ (fun u hu => h u (by simp [hu])) (fun u hu => hby u (by simp [hu]))]
    simp
theorem pars_count : ∀ (f : Nat) (b : List Int) (acc : List Tok), b.length ≤ f → (∀ x ∈ b, 0 ≤ x ∧ x < 256) → (pars b.length b acc).2.length ≤ acc.length + b.length := by
  intro f
  induction f with
  | zero =>
    intro b acc hf _
    have : b = [] := List.eq_nil_of_length_eq_zero (by omega)
    subst this
    simp [pars]
  | succ f ih =>
    intro b acc hf hby
    by_cases hne : b = []
    · subst hne
      simp [pars]
    · rw [pars_step b acc hby hne]
      by_cases h1 : (one b).1 ≠ 0
      · rw [if_pos h1]; simp
      · rw [if_neg h1]
        obtain ⟨k1, k2, k3⟩ := one_len (by simpa using h1) hby
        have := ih (b.drop (one b).2.2) (acc ++ [(one b).2.1]) (by rw [List.length_drop]; omega) (fun x hx => hby x (List.mem_of_mem_drop hx))
        have hdl : (b.drop (one b).2.2).length = b.length - (one b).2.2 := List.length_drop
        have hal : (acc ++ [(one b).2.1]).length = acc.length + 1 := by simp
        omega
theorem pr_bad (ts : List Tok) : ∀ out, (pr ts out).1 ≠ 0 → (pr ts out).2 = [] := by
  induction ts with
  | nil => intro out h; exact absurd rfl h
  | cons t ts ih =>
    intro out h
    rw [pr] at h ⊢
    split
    · rfl
    · rename_i hi
      rw [if_neg hi] at h
      exact ih _ h
end Go.Proofs.YthjfncppiffnmaaDoor.Ra
