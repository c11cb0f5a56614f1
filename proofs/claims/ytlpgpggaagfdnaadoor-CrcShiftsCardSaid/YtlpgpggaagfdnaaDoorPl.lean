/- Plain laws of the small helpers that all statements use. -/
import Derived.Test.YtlpgpggaagfdnaaDoorEv
import Derived.Test.YtlpgpggaagfdnaaDoorQx2
import Derived.Test.YtlpgpggaagfdnaaDoorQx3
namespace Go.Proofs.YtlpgpggaagfdnaaDoor.Pv
open Go.RowKit Go.Proofs.YtlpgpggaagfdnaaDoorW.PrintWords Go.Proofs.YtlpgpggaagfdnaaDoor.Q Go.Proofs.YtlpgpggaagfdnaaDoor.Ev
theorem rd_at (xs : List Int) (i : Nat) (h : i < xs.length) : rd xs i = xs[i] := by
  unfold rd; simp [List.getD_eq_getElem?_getD, h]

/-- Are two rows the same? -/
theorem Same_l0 (a b : List Int) (hl : a.length = b.length) (hm : a.length ≤ 9223372036854775806) : ∀ (n i : Nat), n + i = a.length → Ev (fun k => leatref01_Same.l0 k a b i) (decide (a.drop i = b.drop i)) := by
  intro n
  induction n with
  | zero =>
    intro i hi
    refine succ ?_
    simp only [leatref01_Same.l0]
    refine neg (by omega) ?_
    rw [List.drop_of_length_le (by omega), List.drop_of_length_le (by omega)]
    exact Ev.now _
  | succ n ih =>
    intro i hi
    have ha : i < a.length := by omega
    have hb : i < b.length := by omega
    refine succ ?_
    simp only [leatref01_Same.l0]
    refine pos (by omega) (pos (by omega) (pos (by omega) ?_))
    rw [rd_at a i ha, rd_at b i hb, List.drop_eq_getElem_cons ha, List.drop_eq_getElem_cons hb, w64 (by omega) (by omega)]
    by_cases e : a[i] = b[i]
    · refine pos e ?_
      have := ih (i + 1) (by omega)
      rw [decide_eq_decide.2 (show (a[i] :: a.drop (i + 1) = b[i] :: b.drop (i + 1)) ↔ (a.drop (i + 1) = b.drop (i + 1)) from by rw [e, List.cons.injEq]; exact ⟨fun h => h.2, fun h => ⟨rfl, h⟩⟩)]
      exact this
    · refine neg e ?_
      rw [decide_eq_false (show ¬ (a[i] :: a.drop (i + 1) = b[i] :: b.drop (i + 1)) from fun h => e (List.cons.inj h).1)]
      exact Ev.now false
theorem Same_ev (a b : List Int) (hm : a.length ≤ 9223372036854775806) : Ev (fun k => leatref01_Same.f k a b) (decide (a = b)) := by
  unfold leatref01_Same.f
  by_cases e : a.length = b.length
  · refine pos (by omega) ?_
    simpa using Same_l0 a b e hm a.length 0 (by omega)
  · refine neg (by omega) ?_
    have : a ≠ b := fun h => e (by rw [h])
    simpa [this] using Ev.now false



def bytes (l : List Int) : Prop := ∀ x ∈ l, 0 ≤ x ∧ x ≤ 255
theorem bytes_drop {b : List Int} (hb : bytes b) (n : Nat) : bytes (b.drop n) := fun x hx => hb x (List.mem_of_mem_drop hx)
theorem bytes_take {b : List Int} (hb : bytes b) (n : Nat) : bytes (b.take n) := fun x hx => hb x (List.mem_of_mem_take hx)
theorem bytes_append {a b : List Int} (ha : bytes a) (hb : bytes b) : bytes (a ++ b) := fun x hx => (List.mem_append.1 hx).elim (ha x) (hb x)


/- copies -/
theorem Copy_l0 (xs : List Int) (hl : xs.length ≤ 140737488355327) : ∀ (n i : Nat) (acc : List Int), n + i = xs.length → acc.length + n ≤ 140737488355328 → Ev (fun k => leatref01_Copy.l0 k xs acc i) (acc ++ xs.drop i) := by
  intro n
  induction n with
  | zero =>
    intro i acc hi ha
    refine succ ?_
    simp only [leatref01_Copy.l0]
    refine neg (by omega) ?_
    rw [List.drop_of_length_le (by omega), List.append_nil]
    exact Ev.now _
  | succ n ih =>
    intro i acc hi ha
    have hxi : i < xs.length := by omega
    refine succ ?_
    simp only [leatref01_Copy.l0]
    refine pos (by omega) (pos (by omega) (pos (by omega) ?_))
    rw [rd_at xs i hxi, w64 (by omega) (by omega), List.drop_eq_getElem_cons hxi, List.append_cons]
    have := ih (i + 1) (acc ++ [xs[i]]) (by omega) (by simp; omega)
    simpa using this
theorem Copy_ev (xs : List Int) (hl : xs.length ≤ 140737488355327) : Ev (fun k => leatref01_Copy.f k xs) xs := by
  have := Copy_l0 xs hl xs.length 0 [] (by omega) (by simp; omega)
  simpa [leatref01_Copy.f] using this
theorem Cat_l0 (xs : List Int) (hl : xs.length ≤ 140737488355327) : ∀ (n i : Nat) (acc : List Int), n + i = xs.length → acc.length + n ≤ 140737488355328 → Ev (fun k => leatref01_Cat.l0 k xs acc i) (acc ++ xs.drop i) := by
  intro n
  induction n with
  | zero =>
    intro i acc hi ha
    refine succ ?_
    simp only [leatref01_Cat.l0]
    refine neg (by omega) ?_
    rw [List.drop_of_length_le (by omega), List.append_nil]
    exact Ev.now _
  | succ n ih =>
    intro i acc hi ha
    have hxi : i < xs.length := by omega
    refine succ ?_
    simp only [leatref01_Cat.l0]
    refine pos (by omega) (pos (by omega) (pos (by omega) ?_))
    rw [rd_at xs i hxi, w64 (by omega) (by omega), List.drop_eq_getElem_cons hxi, List.append_cons]
    have := ih (i + 1) (acc ++ [xs[i]]) (by omega) (by simp; omega)
    simpa using this
theorem Cat_ev (a b : List Int) (hl : a.length + b.length ≤ 140737488355327) : Ev (fun k => leatref01_Cat.f k a b) (a ++ b) := by
  refine Ev.bind (Copy_ev a (by omega)) ?_
  have := Cat_l0 b (by omega) b.length 0 a (by omega) (by omega)
  simpa using this
/-- Marks behind a row. -/
def marks : List Int := (List.range 96).map fun i : Nat => ((i : Int) * 7 + 13) % 256
theorem Wide_l0 : ∀ (n i : Nat) (acc : List Int), n + i = 96 → acc.length + n ≤ 140737488355328 → Ev (fun k => leatref01_Wide.l0 k acc i) (acc ++ marks.drop i) := by
  have hm : marks.length = 96 := by simp [marks]
  intro n
  induction n with
  | zero =>
    intro i acc hi ha
    refine succ ?_
    simp only [leatref01_Wide.l0]
    refine neg (by omega) ?_
    rw [List.drop_of_length_le (by omega), List.append_nil]
    exact Ev.now _
  | succ n ih =>
    intro i acc hi ha
    have hxi : i < marks.length := by omega
    refine succ ?_
    simp only [leatref01_Wide.l0]
    refine pos (by omega) (pos (by omega) ?_)
    have e : marks[i] = ((i : Int) * 7 + 13) % 256 := by simp [marks]
    rw [w64 (x := (i : Int) * 7) (by omega) (by omega), w64 (x := (i : Int) * 7 + 13) (by omega) (by omega), w64 (by omega) (by omega), List.drop_eq_getElem_cons hxi, List.append_cons, e]
    have := ih (i + 1) (acc ++ [((i : Int) * 7 + 13) % 256]) (by omega) (by simp; omega)
    simpa using this
theorem Wide_ev (xs : List Int) (hl : xs.length ≤ 140737488355200) : Ev (fun k => leatref01_Wide.f k xs) (xs ++ marks) := by
  refine Ev.bind (Copy_ev xs (by omega)) ?_
  have := Wide_l0 96 0 xs (by omega) (by omega)
  simpa using this
theorem Intact_ev (w xs : List Int) (hl : xs.length ≤ 140737488355200) (hw : w.length ≤ 9223372036854775806) : Ev (fun k => leatref01_Intact.f k w xs) (decide (w = xs ++ marks)) :=
  Ev.bind (Wide_ev xs hl) (Ev.bind (Same_ev w _ hw) (Ev.now _))
end Go.Proofs.YtlpgpggaagfdnaaDoor.Pv
