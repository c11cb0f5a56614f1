/- Parse, in both texts. -/
import Derived.Test.YtoohookgimkhbaaTj
import Derived.Test.YtoohookgimkhbaaSfc
namespace Go.Proofs.Ytoohookgimkhbaa.Ra
open Go Go.RowKit
set_option linter.unusedVariables false
set_option linter.unusedSimpArgs false
set_option maxRecDepth 10000
/-- The tokens that are written, f rounds at most, behind those read so far. -/
def pars : Nat → List Int → List Tok → Int × List Tok
  | 0, _, acc => (0, acc)
  | f + 1, b, acc => if b = [] then (0, acc) else if (one b).1 ≠ 0 then ((one b).1, []) else pars f (b.drop (one b).2.2) (acc ++ [(one b).2.1])
theorem pars_more : ∀ (f : Nat) (b : List Int) (acc : List Tok), (∀ x ∈ b, 0 ≤ x ∧ x < 256) → b.length ≤ f → pars f b acc = pars b.length b acc := by
  intro f
  induction f using Nat.strongRecOn with
  | _ f ih =>
    intro b acc hby hf
    cases f with
    | zero =>
      have : b = [] := List.eq_nil_of_length_eq_zero (by omega)
      subst this
      rfl
    | succ f =>
      cases hb : b with
      | nil => rfl
      | cons x r =>
        rw [← hb]
        have hl : b.length = r.length + 1 := by rw [hb]; rfl
        rw [hl]
        simp only [pars]
        have hne : b ≠ [] := by rw [hb]; simp
        rw [if_neg hne, if_neg hne]
        by_cases h1 : (one b).1 ≠ 0
        · rw [if_pos h1, if_pos h1]
        · rw [if_neg h1, if_neg h1]
          obtain ⟨k1, k2, k3⟩ := one_len (by simpa using h1) hby
          have hby' : ∀ x ∈ b.drop (one b).2.2, 0 ≤ x ∧ x < 256 := fun x hx => hby x (List.mem_of_mem_drop hx)
          have hdl : (b.drop (one b).2.2).length = b.length - (one b).2.2 := List.length_drop
          rw [ih f (by omega) _ _ hby' (by omega), ih r.length (by omega) _ _ hby' (by omega)]
theorem pars_step (b : List Int) (acc : List Tok) (hby : ∀ x ∈ b, 0 ≤ x ∧ x < 256) (hne : b ≠ []) : pars b.length b acc = if (one b).1 ≠ 0 then ((one b).1, []) else pars (b.drop (one b).2.2).length (b.drop (one b).2.2) (acc ++ [(one b).2.1]) := by
  cases hb : b with
  | nil => exact absurd hb hne
  | cons x r =>
    rw [← hb]
    have hl : b.length = r.length + 1 := by rw [hb]; rfl
    conv => lhs; rw [hl]
    simp only [pars]
    rw [if_neg hne]
    by_cases h1 : (one b).1 ≠ 0
    · rw [if_pos h1, if_pos h1]
    · rw [if_neg h1, if_neg h1]
      obtain ⟨k1, k2, k3⟩ := one_len (by simpa using h1) hby
      rw [pars_more r.length _ _ (fun x hx => hby x (List.mem_of_mem_drop hx)) (by rw [List.length_drop]; omega)]
/-- What 'Parse' answers: rows of one's own, each token's in memory of its own. -/
def ParQ (st : St) (res : Int × List Tok) (r : AV) (s : St) : Prop :=
  Ext st s ∧ ∃ x, ∃ L : Nat → Nat → Prop, r = .tup [x, i64 res.1] ∧ x.solid = true ∧ OwX oTokK s (fun g => st.n ≤ g ∧ g < s.n) L TK x res.2 ∧ (∀ j g, L j g → st.n ≤ g ∧ g < s.n) ∧ (∀ i j g, L i g → L j g → i = j)
theorem ParQ.bad {st s : St} {res : Int × List Tok} {e : Int} (h : Ext st s) (hr : res = (e, [])) : ParQ st res (.tup [.pl (.slice none 0 0), i64 e]) s :=
  ⟨h, _, fun _ _ => False, by rw [hr], rfl, by rw [hr]; exact .inl ⟨rfl, rfl⟩, fun _ _ h => h.elim, fun _ _ _ h => h.elim⟩
/-- What the reference's 'Parse' answers. -/
def ParR (st : St) (res : Int × List Tok) (r : AV) (s : St) : Prop :=
  Ext st s ∧ ∃ x, r = .tup [x, i64 res.1] ∧ x.solid = true ∧ RdE tokK s (fun g => st.n ≤ g) x res.2
theorem ParR.bad {st s : St} {res : Int × List Tok} {e : Int} (h : Ext st s) (hr : res = (e, [])) : ParR st res (.tup [.pl (.slice none 0 0), i64 e]) s :=
  ⟨h, _, by rw [hr], rfl, by rw [hr]; exact .inl ⟨rfl, .inl ⟨_, _, rfl⟩⟩⟩
end Go.Proofs.Ytoohookgimkhbaa.Ra
