/- leatlaw26.InboxPlays: Offer beside the reference's. -/
import Derived.Test.YtlindddionbpkaaIk
namespace Go.Proofs.Ytlindddionbpkaa.Ra
open Go Go.RowKit
set_option linter.unusedVariables false
set_option linter.unusedSimpArgs false
set_option maxRecDepth 10000
def ofN (cl : Bool) (c : Nat) (rows ms : List (List Int)) : Nat := if cl = true then 0 else min ms.length (c - rows.length)
def ofE (cl : Bool) (c : Nat) (rows ms : List (List Int)) : Int := if cl = true then 260 else if ms.length ≤ c - rows.length then 0 else 261
theorem take_ofN (c : Nat) (rows ms : List (List Int)) : ms.take (ofN false c rows ms) = ms.take (c - rows.length) := by
  simp only [ofN, Bool.false_eq_true, if_false]
  by_cases h : ms.length ≤ c - rows.length
  · rw [Nat.min_eq_left h, List.take_of_length_le (Nat.le_refl _), List.take_of_length_le h]
  · rw [Nat.min_eq_right (by omega)]
theorem ioffer_all {st : St} (hw : WF st) {i cap lo : Nat} {cl : Bool} {L : Nat → Nat → Prop} {rows ms : List (List Int)} {v : AV} {K : Nat → Prop} (hQ : Que st i cap cl L rows) (hR : RdE rowK st K v ms) (hsl : ∃ a b es, v = .sl a b ms.length es) (hKi : ¬ K i) (hlen : ∀ m ∈ ms, m.length ≤ 140737488355327) (hrc : rows.length ≤ cap) (hA : Apt st.n lo rows.length L) (hlo : lo ≤ st.n) (hi : i < lo) :
    ACalls Try.prog 8 [.ptr i 0, v] st (fun r s => Keeps (fun g => g = i) st s ∧ r = .tup [i64 (ofN cl cap rows ms : Nat), i64 (ofE cl cap rows ms)] ∧ ∃ L', Que s i cap cl L' (rows ++ ms.take (ofN cl cap rows ms)) ∧ Apt s.n lo (rows.length + ofN cl cap rows ms) L' ∧ (∀ j g, j < rows.length → (L' j g ↔ L j g)) ∧ (∀ j g, rows.length ≤ j → L' j g → st.n ≤ g)) := by
  cases cl with
  | true =>
    refine (ioffer_shut hQ v).mono fun r s ⟨h1, h2⟩ => ⟨h1.mono (fun _ h => h.elim), h2, fun j g => j < rows.length ∧ L j g, ?_, ?_, fun j g hj => by simp [hj], fun j g hj hg => by omega⟩
    · have e : ofN true cap rows ms = 0 := rfl
      rw [e, List.take_zero, List.append_nil]
      exact (hQ.up h1).mono fun j g hj hg => ⟨hj, hg⟩
    · have e : ofN true cap rows ms = 0 := rfl
      rw [e, Nat.add_zero]
      exact ⟨fun j g hj hg => (hA.more h1.n).rng j g hj hg.2, fun a b g ha hb h1 h2 => hA.one a b g ha hb h1.2 h2.2⟩
  | false =>
    refine (ioffer_ok hw hQ hR hsl hKi hlen hrc hA hlo hi).mono fun r s ⟨h1, h2, L', h3, h4, h5, h6⟩ => ⟨h1, h2, L', ?_, h4, h5, h6⟩
    rw [take_ofN]
    exact h3
theorem roffer_all {st : St} (hw : WF st) {c : Nat} {rv v : AV} {cl : Bool} {K K' : Nat → Prop} {rows ms : List (List Int)} (h : RdE rowK st K rv rows) (h' : RdE rowK st K' v ms) (hc : c ≤ 64) (hr : rows.length ≤ c) (hl : ms.length ≤ 1048576) (hm : ∀ m ∈ ms, m.length ≤ 1048576) :
    ACalls Try.prog 17 [.agg [i64 c, rv, .pl (.bool cl)], v] st (fun r s => Ext st s ∧ ∃ y, r = .tup [.agg [i64 c, y, .pl (.bool cl)], i64 (ofN cl c rows ms : Nat), i64 (ofE cl c rows ms)] ∧ RdE rowK s (fun g => (K g ∧ g < st.n) ∨ st.n ≤ g) y (rows ++ ms.take (ofN cl c rows ms))) := by
  cases cl with
  | true =>
    refine (roffer_shut hw h h'.solid).mono fun r s ⟨h1, h2⟩ => ⟨h1, rv, h2, ?_⟩
    have e : ofN true c rows ms = 0 := rfl
    rw [e, List.take_zero, List.append_nil]
    exact ((RdE.lt hw h).up h1).mono (fun g hg => .inl hg)
  | false =>
    refine (roffer_ok hw h h' hc hr hl hm).mono fun r s ⟨h1, y, h2, h3⟩ => ⟨h1, y, h2, ?_⟩
    rw [take_ofN]
    exact h3
theorem ofN_le (cl : Bool) (c : Nat) (rows ms : List (List Int)) (h : rows.length ≤ c) : rows.length + ofN cl c rows ms ≤ c ∧ ofN cl c rows ms ≤ ms.length := by
  unfold ofN
  split <;> omega
/-- The groups of the messages that are handed over: one more. -/
theorem Glo.snoc {n n' m lo j : Nat} {L : Nat → Nat → Prop} (h : Glo n lo j L) (hlo : lo ≤ n') (hn : n ≤ n') (hm : n' ≤ m) : Glo m lo (j + 1) (fun q g => L q g ∨ (q = j ∧ n' ≤ g ∧ g < m)) :=
  ⟨fun q g hg => by
    rcases hg with hg | ⟨h1, h2, h3⟩
    · have := h.rng q g hg; omega
    · omega, fun a b g h1 h2 => by
    rcases h1 with h1 | ⟨a1, a2, a3⟩ <;> rcases h2 with h2 | ⟨b1, b2, b3⟩
    · exact h.one a b g h1 h2
    · have := h.rng a g h1; omega
    · have := h.rng b g h2; omega
    · omega⟩
end Go.Proofs.Ytlindddionbpkaa.Ra
