/- leatref05: Alike, Twin. -/
import Derived.Test.YthjfncppiffnmaaDoorTg
namespace Go.Proofs.YthjfncppiffnmaaDoor.Ra
open Go Go.RowKit
set_option linter.unusedVariables false
set_option linter.unusedSimpArgs false
set_option maxRecDepth 10000
/-- The bytes as a string. -/
def bstr (xs : List Int) : ByteArray := xs.foldl (fun r n => r.push (UInt8.ofNat n.toNat)) ByteArray.empty
theorem str_of {st : St} {K : Nat → Prop} {v : AV} {xs : List Int} (h : RdB st K v xs) (id : Nat) : aconvert Tryd.prog st id 22 9 v = some (.pl (.string (bstr xs)), st) := by
  have hs : Tryd.prog.underlying 9 = some .string := Tryd.underlying9
  rcases h with ⟨rfl, ⟨q, c, rfl⟩ | ⟨i, off, b, rfl⟩⟩ | ⟨i, off, b, o, rfl, h2, h3, h4, h5⟩
  · simp only [aconvert, uB, hs, u5]; rfl
  · simp only [aconvert, uB, hs, u5]; rfl
  · simp only [aconvert, uB, hs, u5]
    by_cases h0 : xs.length = 0
    · have : xs = [] := List.eq_nil_of_length_eq_zero h0
      subst this
      rfl
    · rw [if_neg h0, h2]
      simp only
      rw [if_pos (.inr h4)]
      have e : (o.cells.drop off).take xs.length = xs.map u8 := by
        apply List.ext_getElem?
        intro j
        by_cases hj : j < xs.length
        · rw [List.getElem?_take, if_pos hj, List.getElem?_drop, h5 j xs[j] (List.getElem?_eq_getElem hj), List.getElem?_map, List.getElem?_eq_getElem hj]
          rfl
        · rw [List.getElem?_eq_none (by simp; omega), List.getElem?_eq_none (by simp; omega)]
      rw [e]
      have m : (xs.map u8).mapM anum = some xs := by
        clear e h5 h4 h2 h0
        induction xs with
        | nil => rfl
        | cons x xs ih =>
          rw [List.map_cons, List.mapM_cons, ih]
          rfl
      rw [m]
      rfl
theorem str_eq (b : ByteArray) (t : TypeId) : abin Tryd.prog .neq t (.pl (.string b)) (.pl (.string b)) = some (.bool false) := by simp [abin, astrBin]
/-- A token's fields at a place. -/
theorem tk_cells {st : St} {K : Nat → Prop} {v : AV} {os : List Tok} (h : RdE tokK st K v os) (j : Nat) (hj : j < os.length) :
    ∃ i off c, aindexAddr Tryd.prog 28 v (i64 j) = some (.ptr i off) ∧ aload Tryd.prog st 22 (.ptr i off) = some c ∧ aload Tryd.prog st 3 (.ptr i (off + 1)) = some (i64 os[j].2.1) ∧ aload Tryd.prog st 3 (.ptr i (off + 2)) = some (i64 os[j].2.2) ∧ RdB st K c os[j].1 ∧ c.solid = true := by
  obtain ⟨i, off, o, h1, h2, h3, h4, c, h5, h6⟩ := h.at TTK .i64 j hj
  have hs : tokK.s = 3 := rfl
  rw [hs] at h4 h5
  have g : ∀ q, q < 3 → o.cells[off + q]? = ([c, i64 os[j].2.1, i64 os[j].2.2] : List AV)[q]? := fun q hq => by
    rw [← h5, List.getElem?_take, if_pos hq, List.getElem?_drop]
  exact ⟨i, off, c, h1, ldB h2 (g 0 (by omega)), ldI h2 (g 1 (by omega)), ldI h2 (g 2 (by omega)), h6, h6.solid⟩
theorem litT0 (id : Nat) : abuildSlice Tryd.prog 28 id 0 [] = some (.sl id 0 0 3, ⟨[], TK, true, id⟩) := lit_none TTK id
theorem litT1 (id : Nat) (c : AV) (d n : Int) : abuildSlice Tryd.prog 28 id 1 [(0, .agg [c, i64 d, i64 n])] = some (.sl id 0 1 3, ⟨[c, i64 d, i64 n], TK, true, id⟩) := lit_one TTK id (.agg [c, i64 d, i64 n]) rfl rfl (by decide)
theorem bldT {st : St} {K : Nat → Prop} {v : AV} {xs : List Int} (h : RdB st K v xs) (d n : Int) : abuild Tryd.prog TK [(0, v), (1, i64 d), (2, i64 n)] = some (.agg [v, i64 d, i64 n]) := by
  rcases h.isSl with ⟨q, m, c, rfl⟩ | ⟨i, off, m, es, rfl⟩ <;> kernel_rfl
end Go.Proofs.YthjfncppiffnmaaDoor.Ra
