/- leatref05: carry, Run. -/
import Derived.Test.YthjfncppiffnmaaDoorTe
namespace Go.Proofs.YthjfncppiffnmaaDoor.Ra
open Go Go.RowKit
set_option linter.unusedVariables false
set_option linter.unusedSimpArgs false
set_option maxRecDepth 10000
theorem getD_left {l r : List Int} {j : Nat} (h : j < l.length) : (l ++ r).getD j 0 = l.getD j 0 := by
  rw [List.getD_eq_getElem?_getD, List.getD_eq_getElem?_getD, List.getElem?_append_left h]
theorem getD_at {l : List Int} {x : Int} : (l ++ [x]).getD l.length 0 = x := by
  rw [List.getD_eq_getElem?_getD, List.getElem?_append_right (Nat.le_refl _)]
  simp
theorem cp_pre (d : Nat) (out : List Int) (k j : Nat) (h : j < out.length) : (cp d out k).getD j 0 = out.getD j 0 := by
  induction k with
  | zero => rfl
  | succ k ih => rw [cp, getD_left (by rw [cp_len]; omega), ih]
theorem cp_at {d : Nat} {out : List Int} (h1 : 1 ≤ d) (h2 : d ≤ out.length) : ∀ k j, j < k → (cp d out k).getD (out.length + j) 0 = out.getD (out.length - d + j % d) 0 := by
  intro k
  induction k with
  | zero => intro j hj; omega
  | succ k ih =>
    intro j hj
    rw [cp]
    by_cases hjk : j < k
    · rw [getD_left (by rw [cp_len]; omega), ih j hjk]
    · obtain rfl : j = k := by omega
      have e := getD_at (l := cp d out j) (x := (cp d out j).getD ((cp d out j).length - d) 0)
      rw [cp_len] at e
      rw [cp_len, e]
      by_cases hjd : j < d
      · rw [Nat.mod_eq_of_lt hjd, cp_pre _ _ _ _ (by omega)]
        congr 1
        omega
      · have := ih (j - d) (by omega)
        rw [show out.length + j - d = out.length + (j - d) by omega, this, ← Nat.mod_eq_sub_mod (by omega)]
theorem cp_ref {d : Nat} {out : List Int} (h1 : 1 ≤ d) (h2 : d ≤ out.length) (k : Nat) : (cp d out k).getD ((cp d out k).length - d) 0 = (cp d out k).getD (out.length - d + k % d) 0 := by
  have hm := Nat.mod_lt k (show 0 < d by omega)
  rw [cp_len, cp_pre d out k (out.length - d + k % d) (by omega)]
  by_cases hk : k < d
  · rw [Nat.mod_eq_of_lt hk, cp_pre _ _ _ _ (by omega)]
    congr 1
    omega
  · have := cp_at h1 h2 k (k - d) (by omega)
    rw [show out.length + k - d = out.length + (k - d) by omega, this, ← Nat.mod_eq_sub_mod (by omega)]
end Go.Proofs.YthjfncppiffnmaaDoor.Ra
