/- leatlaw26.InboxPlays, for the row. -/
import Derived.Test.YtlindddionbpkaaIl
namespace Go.Proofs.Ytlindddionbpkaa.Ra
open Go Go.RowKit
set_option linter.unusedVariables false
set_option linter.unusedSimpArgs false
theorem oq_of {st : St} {c : List AV} {x : OpQ} (h : c.take 1 = [i64 x.1] ∧ ∃ v, c.drop 1 = [v] ∧ RdL st (fun _ => True) 1 (fun cs xs => ∃ v, cs = [v] ∧ RdL st (fun _ => True) 1 (fun cs n => cs = [.pl (.int .u8 n)]) v xs) v x.2) : opJ.R st (fun _ => True) c x := by
  obtain ⟨h1, v, h2, h3⟩ := h
  refine ⟨v, ?_, rows_of h3⟩
  rw [← List.take_append_drop 1 c, h1, h2]
  rfl
theorem sum_flatJ (ps : List (List Int)) : (ps.map fun xs : List Int => (xs.map fun _ => 1).sum + 1).sum = ps.flatten.length + ps.length := by
  induction ps with
  | nil => rfl
  | cons x ps ih =>
    rw [List.map_cons, List.sum_cons, ih, sum_1]
    simp
    omega
theorem oqs_sum {os : List OpQ} {B : Nat} (h : (os.map fun x : OpQ => 1 + ((x.2.map fun xs : List Int => (xs.map fun _ => 1).sum + 1).sum + 1) + 1).sum ≤ B) : os.length ≤ B ∧ ∀ o ∈ os, o.2.length ≤ B ∧ ∀ x ∈ o.2, x.length ≤ B := by
  induction os generalizing B with
  | nil => exact ⟨Nat.zero_le _, fun o ho => by simp at ho⟩
  | cons x os ih =>
    rw [List.map_cons, List.sum_cons] at h
    obtain ⟨h1, h2⟩ := ih (B := B - (1 + ((x.2.map fun xs : List Int => (xs.map fun _ => 1).sum + 1).sum + 1) + 1)) (by omega)
    have hx := sum_flatJ x.2
    refine ⟨by rw [List.length_cons]; omega, fun o ho => ?_⟩
    rcases List.mem_cons.1 ho with rfl | ho
    · rw [hx] at h
      refine ⟨by omega, fun y hy => ?_⟩
      have := (List.sublist_flatten_of_mem hy).length_le
      omega
    · obtain ⟨k1, k2⟩ := h2 o ho
      exact ⟨by omega, fun y hy => by have := k2 y hy; omega⟩
theorem InboxPlays_small {st : St} (hw : WF st) (n : Int) (g0 : (Lit.int .i64 n).wf = true) {v : AV} {os : List (Int × List (List Int))} (h1 : RdL st (fun _ => True) 2 (fun c x => c.take 1 = [i64 x.1] ∧ ∃ v, c.drop 1 = [v] ∧ RdL st (fun _ => True) 1 (fun cs xs => ∃ v, cs = [v] ∧ RdL st (fun _ => True) 1 (fun cs n => cs = [.pl (.int .u8 n)]) v xs) v x.2) v os)
    (g1 : ∀ x ∈ os, (Lit.int .i64 x.1).wf = true ∧ ∀ y ∈ x.2, ∀ z ∈ y, (Lit.int .u8 z).wf = true)
    (hb : 1 + ((os.map fun x : Int × List (List Int) => 1 + ((x.2.map fun xs : List Int => (xs.map fun _ => 1).sum + 1).sum + 1) + 1).sum + 1) ≤ 1048576) :
    ACalls Try.prog 5 [i64 n, v] st (fun r s => r = .pl (.bool true)) := by
  obtain ⟨h2, h3⟩ := oqs_sum (os := os) (B := 1048576) (Nat.le_trans (Nat.le_add_right _ 1) (Nat.le_trans (Nat.le_add_left _ 1) hb))
  exact plays_ok hw n (RdL.keep h1 (Keeps.refl (fun _ => False) _) (fun _ _ h => h) (fun c x h => oq_of h)) h2 h3
end Go.Proofs.Ytlindddionbpkaa.Ra
