/- leatlaw01.CursorReads. -/
import Derived.Test.YtinjlhhhahllhaaSu
import Derived.Test.YtinjlhhhahllhaaRw
import Derived.Test.YtinjlhhhahllhaaRr
import Derived.Test.YtinjlhhhahllhaaSk
namespace Go.Proofs.Ytinjlhhhahllhaa.Ra
open Go Go.RowKit
set_option linter.unusedVariables false
set_option linter.unusedSimpArgs false
set_option maxRecDepth 10000
abbrev OpT : Type := Int × Int × Int × List (List Int)
def opK : EK OpT where
  s := 4
  R := fun st K cs o => ∃ p, cs = [i64 o.1, i64 o.2.1, i64 o.2.2.1, p] ∧ RdE rowK st K p o.2.2.2
  keep := fun hk hd c x ⟨v, h1, h2⟩ => ⟨v, h1, h2.keep hk hd⟩
  mono := fun hk c x ⟨v, h1, h2⟩ => ⟨v, h1, h2.mono hk⟩
  lt := fun hw c x ⟨v, h1, h2⟩ => ⟨v, h1, h2.lt hw⟩
  one := fun c x ⟨v, h1, h2⟩ => by
    subst h1
    have : v.one = true := by
      rcases h2 with ⟨_, ⟨q, c, rfl⟩ | ⟨i, off, es, rfl⟩⟩ | ⟨i, off, es, o, rfl, _⟩ <;> rfl
    simp [this]
    exact ⟨rfl, rfl, rfl⟩
  len := fun c x ⟨v, h1, h2⟩ => by subst h1; rfl
theorem op_of {st : St} {c : List AV} {x : OpT} (h : c.take 1 = [i64 x.1] ∧ (c.drop 1).take 1 = [i64 x.2.1] ∧ ((c.drop 1).drop 1).take 1 = [i64 x.2.2.1] ∧ ∃ v, ((c.drop 1).drop 1).drop 1 = [v] ∧ RdL st (fun _ => True) 1 (fun cs xs => ∃ v, cs = [v] ∧ RdL st (fun _ => True) 1 (fun cs n => cs = [.pl (.int .u8 n)]) v xs) v x.2.2.2) : opK.R st (fun _ => True) c x := by
  obtain ⟨h1, h2, h3, v, h4, h5⟩ := h
  refine ⟨v, ?_, rows_of h5⟩
  rw [← List.take_append_drop 1 c, h1, ← List.take_append_drop 1 (c.drop 1), h2, ← List.take_append_drop 1 ((c.drop 1).drop 1), h3, h4]
  rfl
theorem ops_of {st : St} {v : AV} {os : List OpT} (h : RdL st (fun _ => True) 4 (fun c x => c.take 1 = [i64 x.1] ∧ (c.drop 1).take 1 = [i64 x.2.1] ∧ ((c.drop 1).drop 1).take 1 = [i64 x.2.2.1] ∧ ∃ v, ((c.drop 1).drop 1).drop 1 = [v] ∧ RdL st (fun _ => True) 1 (fun cs xs => ∃ v, cs = [v] ∧ RdL st (fun _ => True) 1 (fun cs n => cs = [.pl (.int .u8 n)]) v xs) v x.2.2.2) v os) : RdE opK st (fun _ => True) v os :=
  RdL.keep h (Keeps.refl (fun _ => False) _) (fun _ _ h => h) (fun c x h => op_of h)
theorem ops_len (os : List OpT) : os.length ≤ (os.map fun x : Int × Int × Int × List (List Int) => 1 + (1 + (1 + ((x.2.2.2.map fun xs : List Int => (xs.map fun _ => 1).sum + 1).sum + 1))) + 1).sum := by
  rw [← sum_1 os]
  exact sum_ge _ _ (fun x => by omega) os
end Go.Proofs.Ytinjlhhhahllhaa.Ra
