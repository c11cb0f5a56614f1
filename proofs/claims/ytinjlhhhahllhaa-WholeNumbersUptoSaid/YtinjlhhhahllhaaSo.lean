/- Number, by the document. -/
import Derived.Test.YtinjlhhhahllhaaSm
namespace Go.Proofs.Ytinjlhhhahllhaa.Ra
open Go Go.RowKit
set_option linter.unusedVariables false
set_option linter.unusedSimpArgs false
set_option maxRecDepth 10000
/-- Two's complement, the highest first. -/
def sval : List Int → Int
  | [] => 0
  | x :: t => t.foldl (fun v c => v * 256 + c) (if 128 ≤ x then x - 256 else x)
theorem sval_snoc (xs : List Int) (c : Int) (h : xs ≠ []) : sval (xs ++ [c]) = sval xs * 256 + c := by
  cases xs with
  | nil => exact absurd rfl h
  | cons x t => simp [sval]
theorem sval_bound (n : Nat) : ∀ (xs : List Int), xs.length = n + 1 → (∀ x ∈ xs, 0 ≤ x ∧ x < 256) → -(128 * 256 ^ n) ≤ sval xs ∧ sval xs < 128 * 256 ^ n := by
  induction n with
  | zero =>
    intro xs h hx
    match xs, h with
    | [x], _ =>
      have := hx x (by simp)
      simp only [sval, List.foldl_nil]
      split <;> omega
  | succ n ih =>
    intro xs h hx
    rcases List.eq_nil_or_concat xs with rfl | ⟨ys, c, rfl⟩
    · simp at h
    · have h1 := ih ys (by simpa using h) (fun x hm => hx x (by simp [hm]))
      have h2 := hx c (by simp)
      rw [List.concat_eq_append, sval_snoc _ _ (by rintro rfl; simp at h), Int.pow_succ]
      omega
theorem val_sval (n : Nat) : ∀ (xs : List Int), xs.length = n + 1 → val xs = sval xs ∨ val xs = sval xs + 256 ^ (n + 1) := by
  induction n with
  | zero =>
    intro xs h
    match xs, h with
    | [x], _ =>
      simp only [sval, val, List.foldl_nil, List.foldl_cons]
      split
      · right; omega
      · left; omega
  | succ n ih =>
    intro xs h
    rcases List.eq_nil_or_concat xs with rfl | ⟨ys, c, rfl⟩
    · simp at h
    · have h1 := ih ys (by simpa using h)
      rw [List.concat_eq_append, sval_snoc _ _ (by rintro rfl; simp at h), val_snoc, Int.pow_succ]
      omega
end Go.Proofs.Ytinjlhhhahllhaa.Ra
