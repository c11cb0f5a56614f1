/- The small helpers, further: Same, Cat, Wide, Intact, Piece. -/
import Derived.Test.YtjpgpkkbmoehdaaDoorSa
namespace Go.Proofs.YtjpgpkkbmoehdaaDoor.Ra
open Go Go.RowKit
set_option linter.unusedVariables false
set_option linter.unusedSimpArgs false
set_option maxRecDepth 10000
theorem OwB.bump {st : St} {K : Nat → Prop} {v : AV} {xs : List Int} (h : OwB st K v xs) (k : Nat) : OwB (st.bump k) K v xs := h.keep (Keeps.bump (fun _ => False) _ _) (fun _ _ h => h)
theorem RdB.bump {st : St} {K : Nat → Prop} {v : AV} {xs : List Int} (h : RdB st K v xs) (k : Nat) : RdB (st.bump k) K v xs := h.keep (Keeps.bump (fun _ => False) _ _) (fun _ _ h => h)
/-- The marks behind. -/
def marks (n : Nat) : List Int := (List.range n).map fun i : Nat => ((i : Int) * 7 + 13) % 256
theorem marks_succ (n : Nat) : marks (n + 1) = marks n ++ [((n : Int) * 7 + 13) % 256] := by simp [marks, List.range_succ]
theorem marks_len (n : Nat) : (marks n).length = n := by simp [marks]
end Go.Proofs.YtjpgpkkbmoehdaaDoor.Ra
