/- Apart: what is one's own, twice. -/
import Derived.Test.YthjfncppiffnmaaDoorSc
namespace Go.Proofs.YthjfncppiffnmaaDoor.Ra
open Go Go.RowKit
set_option linter.unusedVariables false
set_option linter.unusedSimpArgs false
set_option maxRecDepth 10000
/-- The marks that are put behind. -/
def ups (d : Int) (n : Nat) : List Int := (List.range n).map fun i : Nat => ((i : Int) + d) % 256
theorem ups_succ (d : Int) (n : Nat) : ups d (n + 1) = ups d n ++ [((n : Int) + d) % 256] := by simp [ups, List.range_succ]
theorem ups_len (d : Int) (n : Nat) : (ups d n).length = n := by simp [ups]
theorem ups_get (d : Int) (n k : Nat) (h : k < n) : (ups d n)[k]? = some (((k : Int) + d) % 256) := by simp [ups, h]
theorem slice_sl {P : Program} {t e : TypeId} {s i off n es h : Nat} (ht : P.underlying t = some (.slice e)) (hs : szOf P e = some s) (hh : h ≤ n) (he : es = 0 ∨ es = s) : aslice P t (.sl i off n es) none (some (i64 h)) = some (.sl i off h es) := by
  have h1 : (0 : Int) ≤ (h : Int) ∧ (h : Int) ≤ (n : Int) := by omega
  simp [aslice, ht, hs, ahigh, alow, h1, he]
theorem OwB.cut {st : St} {K : Nat → Prop} {v : AV} {xs ys : List Int} (h : OwB st K v (xs ++ ys)) : ∃ v', aslice Tryd.prog 22 v none (some (i64 xs.length)) = some v' ∧ RdB st K v' xs := by
  rcases h with ⟨h1, rfl⟩ | ⟨i, g, rfl, h2, h3⟩
  · obtain ⟨rfl, rfl⟩ := List.append_eq_nil_iff.1 h1
    refine ⟨.pl (.slice none 0 0), ?_, .inl ⟨rfl, .inl ⟨_, _, rfl⟩⟩⟩
    simp [aslice, uB, sz5, ahigh, alow]
  · exact ⟨_, slice_sl uB sz5 (by simp) (.inr rfl), .inr ⟨i, 0, true, _, rfl, h2, h3, by simp, fun j x hx => by
      obtain ⟨hj, hx⟩ := List.getElem?_eq_some_iff.1 hx
      rw [List.map_append, Nat.zero_add, List.getElem?_append_left (by simpa using hj)]
      simp [hj, hx]⟩⟩
end Go.Proofs.YthjfncppiffnmaaDoor.Ra
