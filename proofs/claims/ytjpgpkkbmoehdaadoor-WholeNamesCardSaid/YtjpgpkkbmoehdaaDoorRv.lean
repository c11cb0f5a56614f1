/- Rows of bytes as elements; ranges. -/
import Derived.Test.YtjpgpkkbmoehdaaDoorSe
import Derived.Test.YtjpgpkkbmoehdaaDoorRt
namespace Go.Proofs.YtjpgpkkbmoehdaaDoor.Ra
open Go Go.RowKit
set_option linter.unusedVariables false
set_option linter.unusedSimpArgs false
set_option maxRecDepth 10000
/-- A row of bytes. -/
def rowK : EK (List Int) where
  s := 1
  R := fun st K cs xs => ∃ c, cs = [c] ∧ RdB st K c xs
  keep := fun hk hd c x ⟨v, h1, h2⟩ => ⟨v, h1, h2.keep hk hd⟩
  mono := fun hk c x ⟨v, h1, h2⟩ => ⟨v, h1, h2.mono hk⟩
  lt := fun hw c x ⟨v, h1, h2⟩ => ⟨v, h1, h2.lt hw⟩
  one := fun c x ⟨v, h1, h2⟩ => by subst h1; simp [h2.cell.2]
  len := fun c x ⟨v, h1, h2⟩ => by subst h1; rfl
theorem OwB.new {st : St} (i : Nat) (h : st.get i = some ⟨[], 5, true, i⟩) : OwB st (fun g => g = i) (.sl i 0 0 1) [] := .inr ⟨i, i, rfl, h, rfl⟩
theorem OwX.new' {α : Type} {k : EK α} {st : St} {L : Nat → Nat → Prop} {e : TypeId} (i : Nat) (h : st.get i = some ⟨[], e, true, i⟩) : OwX k st (fun g => g = i) L e (.sl i 0 0 k.s) [] := OwX.new i h rfl
theorem wrap_succ {k : Nat} (h : k < 140737488355328) : IntKind.i64.wrap ((k : Int) + 1) = ((k + 1 : Nat) : Int) := by rw [wrap64_of (by omega) (by omega)]; omega
/-- A row of bytes of one's own. -/
def oRowK : EK (List Int) where
  s := 1
  R := fun st K cs xs => ∃ c, cs = [c] ∧ OwB st K c xs
  keep := fun hk hd c x ⟨v, h1, h2⟩ => ⟨v, h1, h2.keep hk hd⟩
  mono := fun hk c x ⟨v, h1, h2⟩ => ⟨v, h1, h2.mono hk⟩
  lt := fun hw c x ⟨v, h1, h2⟩ => ⟨v, h1, h2.lt hw⟩
  one := fun c x ⟨v, h1, h2⟩ => by subst h1; simp [h2.rd.cell.2]
  len := fun c x ⟨v, h1, h2⟩ => by subst h1; rfl
theorem oRow_rd {st : St} {K : Nat → Prop} {L : Nat → Nat → Prop} {e : TypeId} {v : AV} {ps : List (List Int)} (h : OwX oRowK st K L e v ps) : OwX rowK st K L e v ps := by
  rcases h with h | ⟨i, g, cs, h1, h2, h3, h4, h5⟩
  · exact .inl h
  · refine .inr ⟨i, g, cs, h1, h2, h3, h4, fun j x hx => ?_⟩
    obtain ⟨c, k1, k2⟩ := h5 j x hx
    exact ⟨c, k1, k2.rd⟩
/-- What the outside reads as rows of bytes. -/
theorem rowK_of {st : St} {c : List AV} {x : List Int} (h : ∃ v, c = [v] ∧ RdL st (fun _ => True) 1 (fun cs n => cs = [.pl (.int .u8 n)]) v x) : rowK.R st (fun _ => True) c x := by
  obtain ⟨v, h1, h2⟩ := h
  refine ⟨v, h1, ?_⟩
  rcases h2 with h | ⟨i, off, b, o, h1, h2, h3, h4, h5⟩
  · exact .inl h
  · refine .inr ⟨i, off, b, o, h1, h2, h3, by omega, fun j x hx => ?_⟩
    have := congrArg (fun q => q[0]?) (h5 j x hx)
    simpa [List.getElem?_take] using this
theorem rows_of {st : St} {v : AV} {ps : List (List Int)} (h : RdL st (fun _ => True) 1 (fun cs xs => ∃ v, cs = [v] ∧ RdL st (fun _ => True) 1 (fun cs n => cs = [.pl (.int .u8 n)]) v xs) v ps) : RdE rowK st (fun _ => True) v ps :=
  RdL.keep h (Keeps.refl (fun _ => False) _) (fun _ _ h => h) (fun c x h => rowK_of h)
theorem wfu8 {x : Int} (h : (Lit.int .u8 x).wf = true) : 0 ≤ x ∧ x < 256 := by
  simp [Lit.wf, IntKind.min, IntKind.max, IntKind.bits, IntKind.signed] at h
  omega
theorem wfi64 {x : Int} (h : (Lit.int .i64 x).wf = true) : -9223372036854775808 ≤ x ∧ x ≤ 9223372036854775807 := by
  simp [Lit.wf, IntKind.min, IntKind.max, IntKind.bits, IntKind.signed] at h
  omega
theorem sum_1 {α : Type} (l : List α) : (l.map fun _ => 1).sum = l.length := by
  induction l with
  | nil => rfl
  | cons x l ih => rw [List.map_cons, List.sum_cons, ih, List.length_cons]; omega
theorem sum_ge {α : Type} (f g : α → Nat) (h : ∀ x, f x ≤ g x) (l : List α) : (l.map f).sum ≤ (l.map g).sum := by
  induction l with
  | nil => simp
  | cons x l ih => have := h x; simp only [List.map_cons, List.sum_cons]; omega
end Go.Proofs.YtjpgpkkbmoehdaaDoor.Ra
