/- leatlaw05: alive, TokenRuns, TokenExpands. -/
import Derived.Test.YthjfncppiffnmaaDoorTh
import Derived.Test.YthjfncppiffnmaaDoorSd
import Derived.Test.YthjfncppiffnmaaDoorRr
namespace Go.Proofs.YthjfncppiffnmaaDoor.Ra
open Go Go.RowKit
set_option linter.unusedVariables false
set_option linter.unusedSimpArgs false
set_option maxRecDepth 10000
theorem run_len (most : Int) : ∀ (ts : List Tok) (out : List Int), out.length ≤ 32768 → (run most ts out).2.length ≤ 32768 := by
  intro ts
  induction ts with
  | nil => intro out h; exact h
  | cons t ts ih =>
    intro out h
    rw [run]
    split
    · rename_i he
      have := carry_len he
      have hb := bnd_range most
      exact ih _ (by omega)
    · simp
theorem expd_len (most : Int) : ∀ (f : Nat) (b out : List Int), out.length ≤ 32768 → (expd most f b out).2.length ≤ 32768 := by
  intro f
  induction f with
  | zero => intro b out h; exact h
  | succ f ih =>
    intro b out h
    rw [expd]
    split
    · exact h
    · split
      · simp
      · split
        · simp
        · rename_i he
          have := carry_len (by simpa using he)
          have hb := bnd_range most
          exact ih _ _ (by omega)
theorem lit6B (id : Nat) : abuildSlice Tryd.prog 22 id 6 [(0, u8 1), (1, u8 97), (2, u8 98), (3, u8 129), (4, u8 0), (5, u8 2)] = some (.sl id 0 6 1, ⟨[1, 97, 98, 129, 0, 2].map u8, 5, true, id⟩) := lits id [1, 97, 98, 129, 0, 2] (by decide)
theorem lit5B (id : Nat) : abuildSlice Tryd.prog 22 id 5 [(0, u8 0), (1, u8 97), (2, u8 255), (3, u8 1), (4, u8 2)] = some (.sl id 0 5 1, ⟨[0, 97, 255, 1, 2].map u8, 5, true, id⟩) := lits id [0, 97, 255, 1, 2] (by decide)
theorem bldTa (a : Nat) : abuild Tryd.prog TK [(0, .sl a 0 1 1)] = some (.agg [.sl a 0 1 1, i64 0, i64 0]) := by kernel_rfl
theorem litT2 (id a : Nat) : abuildSlice Tryd.prog 28 id 2 [(0, .agg [.sl a 0 1 1, i64 0, i64 0]), (1, .agg [.pl (.slice none 0 0), i64 258, i64 131])] = some (.sl id 0 2 3, ⟨[.sl a 0 1 1, i64 0, i64 0, .pl (.slice none 0 0), i64 258, i64 131], TK, true, id⟩) := by kernel_rfl
theorem expdA : expd 100 ([1, 97, 98, 129, 0, 2] : List Int).length [1, 97, 98, 129, 0, 2] [] = (0, [97, 98, 97, 98, 97, 98, 97]) := by decide +kernel
theorem prA : pr [([97], 0, 0), ([], 258, 131)] [] = (0, [0, 97, 255, 1, 2]) := by decide +kernel
/-- What the outside reads as tokens. -/
theorem toks_of {st : St} {v : AV} {ts : List Tok} (h : RdL st (fun _ => True) 3 (fun c (x : Tok) => (∃ v, c.take 1 = [v] ∧ RdL st (fun _ => True) 1 (fun cs n => cs = [.pl (.int .u8 n)]) v x.1) ∧ (c.drop 1).take 1 = [i64 x.2.1] ∧ (c.drop 1).drop 1 = [i64 x.2.2]) v ts) : RdE tokK st (fun _ => True) v ts :=
  RdL.keep h (Keeps.refl (fun _ => False) _) (fun _ _ h => h) (fun c x h => by
    obtain ⟨⟨u, h1, h2⟩, h3, h4⟩ := h
    refine ⟨u, ?_, RdL.bytes h2⟩
    rw [← List.take_append_drop 1 c, h1, ← List.take_append_drop 1 (c.drop 1), h3, h4]
    rfl)
theorem le_sum {α : Type} (f : α → Nat) (l : List α) (x : α) (h : x ∈ l) : f x ≤ (l.map f).sum := by
  induction l with
  | nil => cases h
  | cons y l ih =>
    rw [List.map_cons, List.sum_cons]
    rcases List.mem_cons.1 h with rfl | h
    · omega
    · have := ih h
      omega
theorem toks_small (ts : List (List Int × Int × Int)) : ts.length ≤ (ts.map fun x : List Int × Int × Int => (x.1.map fun _ => 1).sum + 1 + (1 + 1) + 1).sum ∧ ∀ t ∈ ts, t.1.length ≤ (ts.map fun x : List Int × Int × Int => (x.1.map fun _ => 1).sum + 1 + (1 + 1) + 1).sum := by
  refine ⟨?_, fun t ht => ?_⟩
  · have := sum_ge (fun _ => 1) (fun x : List Int × Int × Int => (x.1.map fun _ => 1).sum + 1 + (1 + 1) + 1) (fun x => by omega) ts
    rw [sum_1] at this
    exact this
  · have := le_sum (fun x : List Int × Int × Int => (x.1.map fun _ => 1).sum + 1 + (1 + 1) + 1) ts t ht
    rw [sum_1] at this
    omega
end Go.Proofs.YthjfncppiffnmaaDoor.Ra
