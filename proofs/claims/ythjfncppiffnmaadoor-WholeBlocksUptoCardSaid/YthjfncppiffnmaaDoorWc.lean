/- leatref06: literals, Tokens. -/
import Derived.Test.YthjfncppiffnmaaDoorWb
import Derived.Test.YthjfncppiffnmaaDoorTh
namespace Go.Proofs.YthjfncppiffnmaaDoor.Ra
open Go Go.RowKit Pn
set_option linter.unusedVariables false
set_option linter.unusedSimpArgs false
set_option maxRecDepth 10000
theorem bldL {st : St} {K : Nat → Prop} {v : AV} {xs : List Int} (h : RdB st K v xs) : abuild Tryd.prog TK [(0, v)] = some (.agg [v, i64 0, i64 0]) := by
  rcases h.isSl with ⟨q, m, c, rfl⟩ | ⟨i, off, m, es, rfl⟩ <;> kernel_rfl
theorem chunks_len : ∀ (f : Nat) (l : List Int), (chunks f l).length ≤ l.length := by
  intro f
  induction f with
  | zero => intro l; simp [chunks]
  | succ f ih =>
    intro l
    rw [chunks]
    split
    · simp
    · rename_i h
      have h1 := ih (l.drop 128)
      rw [List.length_drop] at h1
      have h2 : 0 < l.length := List.length_pos_iff.2 h
      rw [List.length_cons]
      omega
theorem pcs_len (l : List Int) : (pcs l).length ≤ l.length := chunks_len _ l
/-- What the reference's 'Tokens' answers. -/
def rtoks (b : List Int) (depth : Int) : Int × List Tok := if 32768 < b.length then (4, []) else (0, grd b (min depth 32) b.length 0 0 [])
end Go.Proofs.YthjfncppiffnmaaDoor.Ra
