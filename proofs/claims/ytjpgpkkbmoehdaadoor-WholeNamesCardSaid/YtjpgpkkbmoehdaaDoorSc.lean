/- The small helpers, further: Spoil, Turned, Piece, Clone. -/
import Derived.Test.YtjpgpkkbmoehdaaDoorSb
namespace Go.Proofs.YtjpgpkkbmoehdaaDoor.Ra
open Go Go.RowKit
set_option linter.unusedVariables false
set_option linter.unusedSimpArgs false
set_option maxRecDepth 10000
/-- A byte turned. -/
def turn (x : Int) : Int := bits .xor .u8 x 90
/-- All objects stay as long as they are, and behind L as they are. -/
def Tail (L : Nat) (st st' : St) : Prop := ∀ i o, st.get i = some o → ∃ o', st'.get i = some o' ∧ o'.cells.length = o.cells.length ∧ o'.grp = o.grp ∧ ∀ q, L ≤ q → o'.cells[q]? = o.cells[q]?
theorem Tail.refl (L : Nat) (st : St) : Tail L st st := fun i o h => ⟨o, h, rfl, rfl, fun _ _ => rfl⟩
theorem Tail.trans {L : Nat} {a b c : St} (h : Tail L a b) (k : Tail L b c) : Tail L a c := fun i o ho => by
  obtain ⟨o1, h1, h2, h3, h4⟩ := h i o ho
  obtain ⟨o2, k1, k2, k3, k4⟩ := k i o1 h1
  exact ⟨o2, k1, by omega, by omega, fun q hq => (k4 q hq).trans (h4 q hq)⟩
theorem topR_get {xs : List AV} {off n q : Nat} (h : off + n ≤ q) : (topR xs off n)[q]? = xs[q]? := by
  by_cases h1 : q < xs.length
  · unfold _root_.Go.Proofs.YtjpgpkkbmoehdaaDoor.Ra.topR
    rw [List.append_assoc, List.getElem?_append_right (by rw [List.length_take]; omega), List.getElem?_append_right (by rw [List.length_take, List.length_replicate]; omega), List.getElem?_drop]
    congr 1
    simp only [List.length_take, List.length_replicate]
    omega
  · rw [List.getElem?_eq_none (by rw [topR_len]; omega), List.getElem?_eq_none (by omega)]
theorem Tail.store {L : Nat} {st0 st : St} (h : Tail L st0 st) {i k n : Nat} {o : AObj} (ho : st.get i = some o) (hk : k + n ≤ L) {cs : List AV} (hl : cs.length = o.cells.length) (hq : ∀ q, L ≤ q → cs[q]? = o.cells[q]?) : Tail L st0 ((st.touch o.grp k n).put i { o with cells := cs }) := h.trans fun j oj hj => by
  by_cases he : j = i
  · subst he
    rw [ho] at hj
    cases hj
    exact ⟨_, get_put _ _, hl, rfl, hq⟩
  · rw [get_put_ne _ he]
    simp only [St.touch, hj, Option.map_some]
    split
    · exact ⟨_, rfl, topR_len _ _ _, rfl, fun q hq => topR_get (by omega)⟩
    · exact ⟨_, rfl, rfl, rfl, fun _ _ => rfl⟩
theorem RdB.lt {st : St} (hw : WF st) {K : Nat → Prop} {v : AV} {xs : List Int} (h : RdB st K v xs) : RdB st (fun g => K g ∧ g < st.n) v xs := by
  rcases h with h | ⟨i, off, es, o, h1, h2, h3, h4⟩
  · exact .inl h
  · exact .inr ⟨i, off, es, o, h1, h2, ⟨h3, (hw i o h2).2⟩, h4⟩
theorem OwB.lt {st : St} (hw : WF st) {K : Nat → Prop} {v : AV} {xs : List Int} (h : OwB st K v xs) : OwB st (fun g => K g ∧ g < st.n) v xs := by
  rcases h with h | ⟨i, g, h1, h2, h3⟩
  · exact .inl h
  · exact .inr ⟨i, g, h1, h2, h3, (hw i _ h2).2⟩
end Go.Proofs.YtjpgpkkbmoehdaaDoor.Ra
