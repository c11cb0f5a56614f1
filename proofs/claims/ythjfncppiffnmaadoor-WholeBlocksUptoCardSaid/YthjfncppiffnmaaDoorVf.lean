/- leatlaw02.VintLists. -/
import Derived.Test.YthjfncppiffnmaaDoorVe
import Derived.Test.YthjfncppiffnmaaDoorSd
import Derived.Test.YthjfncppiffnmaaDoorRr
namespace Go.Proofs.YthjfncppiffnmaaDoor.Ra
open Go Go.RowKit Vn
set_option linter.unusedVariables false
set_option linter.unusedSimpArgs false
set_option maxRecDepth 10000
theorem drop_take1 {l : List AV} {q : Nat} {a : AV} : (l.drop q).take 1 = [a] ↔ l[q]? = some a := by
  constructor
  · intro h
    have := congrArg (fun z => z[0]?) h
    simpa [List.getElem?_take] using this
  · intro h
    obtain ⟨hq, h⟩ := List.getElem?_eq_some_iff.1 h
    rw [List.drop_eq_getElem_cons hq, h]
    rfl
theorem numX_at {st : St} {K : Nat → Prop} {L : Nat → Nat → Prop} {v : AV} {xs : List Int} (h : OwX numK st K L 2 v xs) (j : Nat) (hj : j < xs.length) :
    ∃ i g cs, v = .sl i 0 xs.length 1 ∧ st.get i = some ⟨cs, 2, true, g⟩ ∧ K g ∧ cs.length = xs.length ∧ aindexAddr Tryd.prog 66 v (i64 j) = some (.ptr i j) ∧ aload Tryd.prog st 2 (.ptr i j) = some (i64 xs[j]) := by
  obtain ⟨i, g, cs, h1, h2, h3, h4, h5⟩ := h.get j hj
  have hs : numK.s = 1 := rfl
  have h5' : (cs.drop (j * numK.s)).take numK.s = [i64 xs[j]] := h5
  rw [hs] at h1 h4 h5'
  rw [Nat.mul_one] at h4 h5'
  refine ⟨i, g, cs, h1, h2, h3, h4, ?_, load_one Tryd.underlying2 rfl (by kernel_rfl) h2 (by simp only; omega) h5'⟩
  rw [h1, idx_sl (P := Tryd.prog) (e := 2) (s := 1) (by kernel_rfl) (by kernel_rfl) _ _ _ _ _ _ (by omega) (by omega)]
  simp only [Int.toNat_natCast, Nat.zero_add, Nat.mul_one]
theorem numX_set {st s : St} {K : Nat → Prop} {L : Nat → Nat → Prop} {v : AV} {xs : List Int} (h : OwX numK st K L 2 v xs) {i g j : Nat} {cs : List AV} (h1 : v = .sl i 0 xs.length 1) (h2 : st.get i = some ⟨cs, 2, true, g⟩) (y : Int)
    (hs : s.get i = some ⟨cs.set j (i64 y), 2, true, g⟩) : OwX numK s K L 2 v (xs.set j y) := by
  rcases h with ⟨_, h⟩ | ⟨i', g', cs', e1, e2, e3, e4, e5⟩
  · rw [h] at h1; cases h1
  · rw [e1] at h1
    cases h1
    rw [e2] at h2
    cases h2
    have hsz : numK.s = 1 := rfl
    refine .inr ⟨i, g, cs.set j (i64 y), by rw [List.length_set]; exact e1, hs, e3, by rw [List.length_set, List.length_set]; exact e4, fun q x hx => ?_⟩
    show ((cs.set j (i64 y)).drop (q * numK.s)).take numK.s = [i64 x]
    rw [hsz, Nat.mul_one, drop_take1, List.getElem?_set]
    rw [List.getElem?_set] at hx
    rw [hsz, Nat.mul_one] at e4
    by_cases hq : j = q
    · rw [if_pos hq] at hx ⊢
      by_cases hl : j < xs.length
      · rw [if_pos hl] at hx
        cases hx
        rw [if_pos (by omega)]
      · rw [if_neg hl] at hx
        cases hx
    · rw [if_neg hq] at hx ⊢
      have h5 : (cs.drop (q * numK.s)).take numK.s = [i64 x] := e5 q x hx
      rw [hsz, Nat.mul_one, drop_take1] at h5
      exact h5
theorem RdB.litG (st : St) (id g : Nat) (ns : List Int) : RdB (st.put id ⟨ns.map u8, 5, true, g⟩) (fun h => h = g) (.sl id 0 ns.length 1) ns :=
  .inr ⟨id, 0, true, _, rfl, get_put _ _, rfl, by simp, fun j x hx => by simp [hx]⟩
theorem vput7 : vput 7 = [14] := by
  unfold vput
  rw [show (zig 7).toNat = 14 by decide]
  exact dig_small (by decide)
end Go.Proofs.YthjfncppiffnmaaDoor.Ra
