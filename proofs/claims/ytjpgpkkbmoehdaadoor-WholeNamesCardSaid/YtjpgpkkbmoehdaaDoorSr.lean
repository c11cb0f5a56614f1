/- Strings of bytes, alone. -/
import Derived.Test.YtjpgpkkbmoehdaaDoorSe
namespace Go.Proofs.YtjpgpkkbmoehdaaDoor.Ra
open Go Go.RowKit
set_option linter.unusedVariables false
set_option linter.unusedSimpArgs false
set_option maxRecDepth 10000
/-- The bytes as a string. -/
def bstrF (xs : List Int) : ByteArray := xs.foldl (fun r n => r.push (UInt8.ofNat n.toNat)) ByteArray.empty
theorem strF_of {st : St} {K : Nat → Prop} {v : AV} {xs : List Int} (h : RdB st K v xs) (id : Nat) : aconvert Tryd.prog st id 28 9 v = some (.pl (.string (bstrF xs)), st) := by
  have hs : Tryd.prog.underlying 9 = some .string := Tryd.underlying9
  rcases h with ⟨rfl, ⟨q, c, rfl⟩ | ⟨i, off, b, rfl⟩⟩ | ⟨i, off, b, o, rfl, h2, h3, h4, h5⟩
  · simp only [aconvert, uB, hs, u5]; rfl
  · simp only [aconvert, uB, hs, u5]; rfl
  · simp only [aconvert, uB, hs, u5]
    by_cases h0 : xs.length = 0
    · have : xs = [] := List.eq_nil_of_length_eq_zero h0
      subst this
      rfl
    · rw [if_neg h0, h2]
      simp only
      rw [if_pos (.inr h4)]
      have e : (o.cells.drop off).take xs.length = xs.map u8 := by
        apply List.ext_getElem?
        intro j
        by_cases hj : j < xs.length
        · rw [List.getElem?_take, if_pos hj, List.getElem?_drop, h5 j xs[j] (List.getElem?_eq_getElem hj), List.getElem?_map, List.getElem?_eq_getElem hj]
          rfl
        · rw [List.getElem?_eq_none (by simp; omega), List.getElem?_eq_none (by simp; omega)]
      rw [e]
      have m : (xs.map u8).mapM anum = some xs := by
        clear e h5 h4 h2 h0
        induction xs with
        | nil => rfl
        | cons x xs ih =>
          rw [List.map_cons, List.mapM_cons, ih]
          rfl
      rw [m]
      rfl
theorem strF_eq (b : ByteArray) (t : TypeId) : abin Tryd.prog .neq t (.pl (.string b)) (.pl (.string b)) = some (.bool false) := by simp [abin, astrBin]
end Go.Proofs.YtjpgpkkbmoehdaaDoor.Ra
