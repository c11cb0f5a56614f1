/- Rows of rows of bytes. -/
import Derived.Test.YtjpgpkkbmoehdaaDoorRv
namespace Go.Proofs.YtjpgpkkbmoehdaaDoor.Ra
open Go Go.RowKit
set_option linter.unusedVariables false
set_option linter.unusedSimpArgs false
set_option maxRecDepth 10000
theorem row_at {st : St} {K : Nat → Prop} {v : AV} {ps : List (List Int)} (h : RdE rowK st K v ps) (k : IntKind) (j : Nat) (hj : j < ps.length) :
    ∃ q c, aindexAddr Tryd.prog 42 v (.pl (.int k j)) = some q ∧ q.solid = true ∧ aload Tryd.prog st 28 q = some c ∧ c.solid = true ∧ RdB st K c ps[j] := by
  obtain ⟨p, c, h1, h2, h3, c', h4, h5⟩ := RdE.load1 (P := Tryd.prog) (t := 42) (e := 28) (b := 24) h rfl (TF.of (by kernel_rfl) (by kernel_rfl) (by decide)) uB rfl k j hj
  cases h4
  exact ⟨p, c, h1, h2, h3, h5.solid, h5⟩
theorem TR : TF Tryd.prog 42 28 rowK.s 24 := TF.of (by kernel_rfl) (by kernel_rfl) (by decide)
/-- A row of one's own at a place. -/
theorem oRow_at {st : St} {K : Nat → Prop} {L : Nat → Nat → Prop} {v : AV} {ps : List (List Int)} (h : OwX oRowK st K L 28 v ps) (k : IntKind) (j : Nat) (hj : j < ps.length) :
    ∃ i g cs p c, v = .sl i 0 ps.length 1 ∧ st.get i = some ⟨cs, 28, true, g⟩ ∧ K g ∧ aindexAddr Tryd.prog 42 v (.pl (.int k j)) = some p ∧ p.solid = true ∧ aload Tryd.prog st 28 p = some c ∧ (cs.drop (j * 1)).take 1 = [c] ∧ OwB st (fun h => L j h ∧ h ≠ g) c ps[j] := by
  obtain ⟨i, g, cs, h1, h2, h3, h4, c, h5, h6⟩ := h.get j hj
  have hs : oRowK.s = 1 := rfl
  rw [hs] at h1 h4 h5
  refine ⟨i, g, cs, .ptr i (0 + j * 1), c, h1, h2, h3, ?_, rfl, ?_, h5, h6⟩
  · rw [h1, idx_sl (P := Tryd.prog) (e := 28) (s := 1) (by kernel_rfl) (by kernel_rfl) _ _ _ _ _ _ (by omega) (by omega)]
    simp only [Int.toNat_natCast]
  · refine load_one uB rfl (by kernel_rfl) h2 (by simp only; omega) ?_
    simpa using h5
end Go.Proofs.YtjpgpkkbmoehdaaDoor.Ra
