/- Arguments laid open by their kinds: what a reading of an argument gives the printed contracts, and how great it is. -/
import Derived.Test.YtlpgpggaagfdnaaDoorRows
import Derived.Test.YtlpgpggaagfdnaaDoorQx0
import Derived.WalkKit
import Derived.ProofKit
import Derived.OpenShut
import Derived.ShutString
import Derived.ChangeOld
import Derived.Below
import Derived.Deep.Slices
namespace Go.Proofs.YtlpgpggaagfdnaaDoor.Op
open Go.RowKit Go.Proofs.YtlpgpggaagfdnaaDoorW.PrintWords Go.ChangeShapes Go.WideShapes Go.Deep

structure Opens {α : Type} (P : Program) (d : Kd α) (t : TypeId) (good : α → Prop) (big : α → Nat) : Prop where
  trod : ∀ {H : Type} {enc : TypeId × Value → H} {w : World} {base : Nat} {spare : Nat → Bool} {held : Bool} {fuel : Nat} {cs : List Value} {x : DataW H × List MemPlace}, DataW.trod enc P w base spare held fuel t cs = some x → ∃ a, d.K w a cs ∧ good a ∧ big a ≤ Rows.uptoBulk x.1
  sz : P.cellsOf t = d.sz

theorem Opens.Trod {α : Type} {P : Program} {d : Kd α} {t : TypeId} {good : α → Prop} {big : α → Nat} (o : Opens P d t good big) {H : Type} {enc : TypeId × Value → H} {w : World} {base : Nat} {spare : Nat → Bool} {held : Bool} {v : Value} {D : DataW H} {ps : List MemPlace}
    (h : DataW.Trod enc P w base spare held t v D ps) : ∃ a, d.K w a v.cells.toList ∧ good a ∧ big a ≤ Rows.uptoBulk D := by
  obtain ⟨fuel, hf⟩ := h
  exact o.trod hf

theorem Opens.int {P : Program} {t : TypeId} {k : IntKind} (hu : P.underlying t = some (.int k)) (hc : P.cellsOf t = 1) : Opens P (Kd.int k) t (fun n => (Lit.int k n).wf = true) (fun _ => 1) where
  trod := by
    intro H enc w base spare held fuel cs x h
    obtain ⟨n, rfl, rfl, hw⟩ := DataW.trod_int hu h
    exact ⟨n, rfl, hw, by simp [Rows.uptoBulk]⟩
  sz := hc
theorem Opens.bool {P : Program} {t : TypeId} (hu : P.underlying t = some .bool) (hc : P.cellsOf t = 1) : Opens P Kd.bool t (fun _ => True) (fun _ => 1) where
  trod := by
    intro H enc w base spare held fuel cs x h
    obtain ⟨b, rfl, rfl⟩ := DataW.trod_bool hu h
    exact ⟨b, rfl, trivial, by simp [Rows.uptoBulk]⟩
  sz := hc
theorem Opens.string {P : Program} {t : TypeId} (hu : P.underlying t = some .string) (hc : P.cellsOf t = 1) : Opens P Kd.string t (fun s => s.size ≤ maxLen) (fun s => s.size + 1) where
  trod := by
    intro H enc w base spare held fuel cs x h
    obtain ⟨s, rfl, rfl, hs⟩ := DataW.trod_string hu h
    exact ⟨s, rfl, hs, by simp [Rows.uptoBulk]⟩
  sz := hc

theorem bulk_range {H : Type} (n : Nat) (D : Nat → DataW H) (f : Nat → Nat) (h : ∀ i, i < n → f i ≤ Rows.uptoBulk (D i)) : ((List.range n).map f).sum ≤ Rows.uptoBulkAll ((List.range n).map D) := by
  induction n with
  | zero => simp [Rows.uptoBulkAll]
  | succ n ih =>
    have app : ∀ l r : List (DataW H), Rows.uptoBulkAll (l ++ r) = Rows.uptoBulkAll l + Rows.uptoBulkAll r := by
      intro l r
      induction l with
      | nil => simp [Rows.uptoBulkAll]
      | cons x l ih => simp only [List.cons_append, Rows.uptoBulkAll, ih]; omega
    have h1 := ih fun i hi => h i (by omega)
    have h2 := h n (by omega)
    rw [List.range_succ, List.map_append, List.map_append, List.sum_append, app]
    simp only [List.map_cons, List.map_nil, List.sum_cons, List.sum_nil, Rows.uptoBulkAll]
    omega

theorem Opens.slice {α : Type} [Inhabited α] {P : Program} {d : Kd α} {t e : TypeId} {good : α → Prop} {big : α → Nat} (hu : P.underlying t = some (.slice e)) (hc : P.cellsOf t = 1) (o : Opens P d e good big) :
    Opens P (Kd.slice e d) t (fun xs => ∀ x ∈ xs, good x) (fun xs => (xs.map big).sum + 1) where
  trod := by
    intro H enc w base spare held fuel cs x h
    rcases open_slice hu h with ⟨rfl, rfl⟩ | ⟨a, len, cap, m, n, D, Pl, rfl, _, hl, hm, hmm, rfl, hx⟩
    · refine ⟨[], ⟨none, 0, rfl, Nat.le_refl _, rfl, by simp, fun h => absurd h (by simp)⟩, by simp, by simp [Rows.uptoBulk]⟩
    · have hlm : len ≤ m := by rw [hmm]; split <;> omega
      obtain ⟨X, hX⟩ := choose_lt (α := α) (n := len) (p := fun i y => good y ∧ big y ≤ Rows.uptoBulk (D i) ∧ ∃ cs', w.cells? base (a.add (i * P.cellsOf e)) (P.cellsOf e) = some cs' ∧ d.K w y cs') (fun i hi => by
        obtain ⟨cs', h1, h2⟩ := hx i (by omega)
        obtain ⟨y, hy, hg, hb⟩ := o.trod h2
        exact ⟨y, hg, hb, cs', h1, hy⟩)
      refine ⟨(List.range len).map X, ⟨some a, cap, by simp, by simpa using hl, ?_⟩, ?_, ?_⟩
      · refine ⟨rfl, by unfold maxLen at hm; simp; omega, fun _ => ⟨a, rfl, fun j p hj => ?_⟩⟩
        obtain ⟨hj1, hj2⟩ := List.getElem?_eq_some_iff.1 hj
        have hj3 : j < len := by simpa using hj1
        have hp : p = X j := by simpa using hj2.symm
        subst hp
        obtain ⟨_, _, cs', h1, h2⟩ := hX j hj3
        obtain ⟨_, hlen, hcell⟩ := World.cells?_some h1
        rw [o.sz] at hlen hcell h1
        refine ⟨cs', hlen, h2, fun i u hu2 => ?_⟩
        have hil : i < d.sz := by have := (List.getElem?_eq_some_iff.1 hu2).1; omega
        have := hcell i hil
        rw [Deep.add_add] at this
        rw [this, hu2]
      · intro y hy
        obtain ⟨j, hj, rfl⟩ := List.mem_map.1 hy
        exact (hX j (by simpa using hj)).1
      · rw [List.map_map]
        have := bulk_range len D (big ∘ X) (fun i hi => (hX i hi).2.1)
        simp only [Rows.uptoBulk]
        omega
  sz := hc
end Go.Proofs.YtlpgpggaagfdnaaDoor.Op
