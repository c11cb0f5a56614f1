/- leatref05: Literal, Copies, bound, One. -/
import Derived.Test.YthjfncppiffnmaaDoorTd
namespace Go.Proofs.YthjfncppiffnmaaDoor.Ra
open Go Go.RowKit
set_option linter.unusedVariables false
set_option linter.unusedSimpArgs false
set_option maxRecDepth 10000
def litT (t : Tok) : Bool := decide (t.2.1 = 0 ∧ t.2.2 = 0 ∧ 0 < t.1.length ∧ t.1.length ≤ 128)
def copT (t : Tok) : Bool := decide (¬ (0 < t.1.length) ∧ 1 ≤ t.2.1 ∧ t.2.1 ≤ 4096 ∧ 4 ≤ t.2.2 ∧ t.2.2 ≤ 131)
theorem ill_iff (t : Tok) : ill t = (!litT t && !copT t) := by
  unfold ill litT copT cop
  rw [Bool.eq_iff_iff]
  simp only [decide_eq_true_eq, Bool.and_eq_true, Bool.not_eq_true', decide_eq_false_iff_not]
  by_cases h : t.2.1 ≠ 0 ∨ t.2.2 ≠ 0
  · rw [if_pos h]
    simp only [decide_eq_true_eq]
    omega
  · rw [if_neg h]
    simp only [decide_eq_true_eq]
    omega
theorem beqT {a b : Int} (h : a = b) : (a == b) = true := by simp [h]
theorem beqF {a b : Int} (h : a ≠ b) : (a == b) = false := by simp [h]
/-- What 'One' answers, at the place a. -/
def OneR (st : St) (b : List Int) (a : Nat) (r : AV) (s : St) : Prop :=
  Ext st s ∧ ∃ c, r = .tup [.agg [c, i64 (one (b.drop a)).2.1.2.1, i64 (one (b.drop a)).2.1.2.2], i64 (if (one (b.drop a)).1 = 0 then (a + (one (b.drop a)).2.2 : Nat) else 0 : Int), i64 (one (b.drop a)).1] ∧ RdB s (fun g => st.n ≤ g) c (one (b.drop a)).2.1.1
theorem getD_drop (b : List Int) (a k : Nat) : (b.drop a).getD k 0 = b.getD (a + k) 0 := by
  rw [List.getD_eq_getElem?_getD, List.getD_eq_getElem?_getD, List.getElem?_drop]
end Go.Proofs.YthjfncppiffnmaaDoor.Ra
