/- leatref05.Print; leatlaw05.TokenPrints. -/
import Derived.Test.YthjfncppiffnmaaDoorTi
namespace Go.Proofs.YthjfncppiffnmaaDoor.Ra
open Go Go.RowKit
set_option linter.unusedVariables false
set_option linter.unusedSimpArgs false
set_option maxRecDepth 10000
theorem pr_len : ∀ (ts : List Tok) (out : List Int), (pr ts out).2.length ≤ out.length + 129 * ts.length := by
  intro ts
  induction ts with
  | nil => intro out; simp [pr]
  | cons t ts ih =>
    intro out
    rw [pr]
    split
    · simp
    · rename_i hi
      have := ih (out ++ enc t)
      obtain ⟨r1, r2, r3, r4, r5, r6⟩ := ill_range hi
      have he : (enc t).length ≤ 129 := by
        unfold enc
        split <;> simp
        omega
      rw [List.length_append] at this
      simp only [List.length_cons]
      omega
end Go.Proofs.YthjfncppiffnmaaDoor.Ra
