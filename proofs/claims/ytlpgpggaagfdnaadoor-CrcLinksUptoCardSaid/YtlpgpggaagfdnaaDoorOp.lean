/- Arguments laid open by their kinds: what a reading of an argument gives the printed contracts, and how great it is. -/
import Derived.Test.YtlpgpggaagfdnaaDoorRows
import Derived.Test.YtlpgpggaagfdnaaDoorQx0
import Derived.WalkKit
import Derived.ProofKit
import Derived.OpenShut
import Derived.ShutString
import Derived.ChangeOld
import Derived.Below
import Derived.Deep.Slices
namespace Go.Proofs.YtlpgpggaagfdnaaDoor.Op
open Go.RowKit Go.Proofs.YtlpgpggaagfdnaaDoorW.PrintWords Go.ChangeShapes Go.WideShapes Go.Deep

structure Opens {α : Type} (P : Program) (d : Kd α) (t : TypeId) (good : α → Prop) (big : α → Nat) : Prop where
  trod : ∀ {H : Type} {enc : TypeId × Value → H} {w : World} {base : Nat} {spare : Nat → Bool} {held : Bool} {fuel : Nat} {cs : List Value} {x : DataW H × List MemPlace}, DataW.trod enc P w base spare held fuel t cs = some x → ∃ a, d.K w a cs ∧ good a ∧ big a ≤ Rows.uptoBulk x.1
  sz : P.cellsOf t = d.sz

theorem Opens.Trod {α : Type} {P : Program} {d : Kd α} {t : TypeId} {good : α → Prop} {big : α → Nat} (o : Opens P d t good big) {H : Type} {enc : TypeId × Value → H} {w : World} {base : Nat} {spare : Nat → Bool} {held : Bool} {v : Value} {D : DataW H} {ps : List MemPlace}
    (h : DataW.Trod enc P w base spare held t v D ps) : ∃ a, d.K w a v.cells.toList ∧ good a ∧ big a ≤ Rows.uptoBulk D := by
  obtain ⟨fuel, hf⟩ := h
  exact o.trod hf

theorem Opens.int {P : Program} {t : TypeId} {k : IntKind} (hu : P.underlying t = some (.int k)) (hc : P.cellsOf t = 1) : Opens P (Kd.int k) t (fun n => (Lit.int k n).wf = true) (fun _ => 1) where
  trod := by
    intro H enc w base spare held fuel cs x h
    obtain ⟨n, rfl, rfl, hw⟩ := DataW.trod_int hu h
    exact ⟨n, rfl, hw, by simp [Rows.uptoBulk]⟩
  sz := hc
theorem Opens.bool {P : Program} {t : TypeId} (hu : P.underlying t = some .bool) (hc : P.cellsOf t = 1) : Opens P Kd.bool t (fun _ => True) (fun _ => 1) where
  trod := by
    intro H enc w base spare held fuel cs x h
    obtain ⟨b, rfl, rfl⟩ := DataW.trod_bool hu h
    exact ⟨b, rfl, trivial, by simp [Rows.uptoBulk]⟩
  sz := hc
theorem Opens.string {P : Program} {t : TypeId} (hu : P.underlying t = some .string) (hc : P.cellsOf t = 1) : Opens P Kd.string t (fun s => s.size ≤ maxLen) (fun s => s.size + 1) where
  trod := by
    intro H enc w base spare held fuel cs x h
    obtain ⟨s, rfl, rfl, hs⟩ := DataW.trod_string hu h
    exact ⟨s, rfl, hs, by simp [Rows.uptoBulk]⟩
  sz := hc

theorem bulk_range {H : Type} (n : Nat) (D : Nat → DataW H) (f : Nat → Nat) (h : ∀ i, i < n → f i ≤ Rows.uptoBulk (D i)) : ((List.range n).map f).sum ≤ Rows.uptoBulkAll ((List.range n).map D) := by
  induction n with
  | zero => simp [Rows.uptoBulkAll]
  | succ n ih =>
    have app : ∀ l r : List (DataW H), Rows.uptoBulkAll (l ++ r) = Rows.uptoBulkAll l + Rows.uptoBulkAll r := by
      intro l r
      induction l with
      | nil => simp [Rows.uptoBulkAll]
      | cons x l ih => simp only [List.cons_append, Rows.uptoBulkAll, ih]; omega
    have h1 := ih fun i hi => h i (by omega)
    have h2 := h n (by omega)
    rw [List.range_succ, List.map_append, List.map_append, List.sum_append, app]
    simp only [List.map_cons, List.map_nil, List.sum_cons, List.sum_nil, Rows.uptoBulkAll]
    omega

theorem Opens.slice {α : Type} [Inhabited α] {P : Program} {d : Kd α} {t e : TypeId} {good : α → Prop} {big : α → Nat} (hu : P.underlying t = some (.slice e)) (hc : P.cellsOf t = 1) (o : Opens P d e good big) :
    Opens P (Kd.slice e d) t (fun xs => ∀ x ∈ xs, good x) (fun xs => (xs.map big).sum + 1) where
  trod := by
    intro H enc w base spare held fuel cs x h
    rcases open_slice hu h with ⟨rfl, rfl⟩ | ⟨a, len, cap, m, n, D, Pl, rfl, _, hl, hm, hmm, rfl, hx⟩
    · refine ⟨[], ⟨none, 0, rfl, Nat.le_refl _, rfl, by simp, fun h => absurd h (by simp)⟩, by simp, by simp [Rows.uptoBulk]⟩
    · have hlm : len ≤ m := by rw [hmm]; split <;> omega
      obtain ⟨X, hX⟩ := choose_lt (α := α) (n := len) (p := fun i y => good y ∧ big y ≤ Rows.uptoBulk (D i) ∧ ∃ cs', w.cells? base (a.add (i * P.cellsOf e)) (P.cellsOf e) = some cs' ∧ d.K w y cs') (fun i hi => by
        obtain ⟨cs', h1, h2⟩ := hx i (by omega)
        obtain ⟨y, hy, hg, hb⟩ := o.trod h2
        exact ⟨y, hg, hb, cs', h1, hy⟩)
      refine ⟨(List.range len).map X, ⟨some a, cap, by simp, by simpa using hl, ?_⟩, ?_, ?_⟩
      · refine ⟨rfl, by unfold maxLen at hm; simp; omega, fun _ => ⟨a, rfl, fun j p hj => ?_⟩⟩
        obtain ⟨hj1, hj2⟩ := List.getElem?_eq_some_iff.1 hj
        have hj3 : j < len := by simpa using hj1
        have hp : p = X j := by simpa using hj2.symm
        subst hp
        obtain ⟨_, _, cs', h1, h2⟩ := hX j hj3
        obtain ⟨_, hlen, hcell⟩ := World.cells?_some h1
        rw [o.sz] at hlen hcell h1
        refine ⟨cs', hlen, h2, fun i u hu2 => ?_⟩
        have hil : i < d.sz := by have := (List.getElem?_eq_some_iff.1 hu2).1; omega
        have := hcell i hil
        rw [Deep.add_add] at this
        rw [this, hu2]
      · intro y hy
        obtain ⟨j, hj, rfl⟩ := List.mem_map.1 hy
        exact (hX j (by simpa using hj)).1
      · rw [List.map_map]
        have := bulk_range len D (big ∘ X) (fun i hi => (hX i hi).2.1)
        simp only [Rows.uptoBulk]
        omega
  sz := hc

/-- A small array of whole numbers. -/
theorem open_arr {P : Program} {t e : TypeId} {n : Nat} {k : IntKind} (ht : P.underlying t = some (.array n e)) (he : P.underlying e = some (.int k)) (hc : P.cellsOf e = 1) (hct : P.cellsOf t = n)
    {H : Type} {enc : TypeId × Value → H} {w : World} {base : Nat} {spare : Nat → Bool} {held : Bool} {fuel : Nat} {cs : List Value} {x : DataW H × List MemPlace} (h : DataW.trod enc P w base spare held fuel t cs = some x) :
    ∃ zs : List Int, zs.length = n ∧ cs = zs.map (Value.int k) ∧ (∀ z ∈ zs, (Lit.int k z).wf = true) ∧ n + 1 ≤ Rows.uptoBulk x.1 := by
  obtain ⟨xs, m, _, rfl, hlen, hxs, hel⟩ := DataW.trod_array ht h
  rw [hct] at hlen
  have one : ∀ i, i < n → ∃ z, cs[i]? = some (Value.int k z) ∧ (Lit.int k z).wf = true := by
    intro i hi
    have h1 := hel i hi
    rw [hc, Nat.mul_one, List.getElem?_eq_getElem (by omega)] at h1
    obtain ⟨z, hz, _, hw⟩ := DataW.trod_int he h1
    refine ⟨z, ?_, hw⟩
    have h2 := congrArg (fun l => l[0]?) hz
    simpa using h2
  obtain ⟨Z, hZ⟩ := choose_lt (α := Int) (n := n) (p := fun i z => cs[i]? = some (Value.int k z) ∧ (Lit.int k z).wf = true) one
  refine ⟨(List.range n).map Z, by simp, ?_, ?_, ?_⟩
  · apply List.ext_getElem?
    intro i
    by_cases hi : i < n
    · rw [(hZ i hi).1]; simp [hi]
    · rw [List.getElem?_eq_none (by omega), List.getElem?_eq_none (by simp; omega)]
  · intro z hz
    obtain ⟨i, hi, rfl⟩ := List.mem_map.1 hz
    exact (hZ i (by simpa using hi)).2
  · have ge : ∀ l : List (DataW H), l.length ≤ Rows.uptoBulkAll l := by
      intro l
      induction l with
      | nil => simp
      | cons d r ih =>
        have h1 : 1 ≤ Rows.uptoBulk d := by
          cases d with
          | lit l => cases l <;> simp [Rows.uptoBulk]
          | nil => simp [Rows.uptoBulk]
          | ptr d => simp [Rows.uptoBulk]
          | slice a b => simp [Rows.uptoBulk]
          | agg a => simp [Rows.uptoBulk]
          | iface a b => simp [Rows.uptoBulk]
          | map a => simp [Rows.uptoBulk]
          | held a => simp [Rows.uptoBulk]
        simp only [Rows.uptoBulkAll, List.length_cons]
        omega
    have := ge (xs.map (·.1))
    rw [List.length_map, hxs] at this
    simp only [Rows.uptoBulk]
    omega
theorem okWide_array {P : Program} {w : World} {r : Reach} {base : Nat} {t e : TypeId} {n : Nat} {v : Value} (ht : P.underlying t = some (.array n e)) (h : Value.okWide P w r base t v) : ∃ cs, v = .agg cs := by
  simp only [Value.okWide, ht] at h
  obtain ⟨cs, h1, _⟩ := h
  exact ⟨cs, h1⟩
/-- .. as an element: three numbers in line. -/
theorem Opens.array3 {α : Type} {P : Program} {t e : TypeId} {k : IntKind} {mk : Int → Int → Int → α} {pr : α → Int × Int × Int} (hpr : ∀ a b c, pr (mk a b c) = (a, b, c)) (ht : P.underlying t = some (.array 3 e)) (he : P.underlying e = some (.int k)) (hc : P.cellsOf e = 1) (hct : P.cellsOf t = 3) :
    Opens P (Kd.iso (Kd.pair (Kd.int k) (Kd.pair (Kd.int k) (Kd.int k))) pr) t (fun x => (Lit.int k (pr x).1).wf = true ∧ (Lit.int k (pr x).2.1).wf = true ∧ (Lit.int k (pr x).2.2).wf = true) (fun _ => 4) where
  trod := by
    intro H enc w base spare held fuel cs x h
    obtain ⟨zs, hl, rfl, hw, hb⟩ := open_arr ht he hc hct h
    match zs, hl with
    | [a, b, c], _ =>
      refine ⟨mk a b c, ⟨[.int k a], [.int k b, .int k c], rfl, ?_, [.int k b], [.int k c], rfl, ?_, ?_⟩, ?_, hb⟩
      · rw [hpr]; rfl
      · rw [hpr]; rfl
      · rw [hpr]; rfl
      · rw [hpr]; exact ⟨hw a (by simp), hw b (by simp), hw c (by simp)⟩
  sz := hct
end Go.Proofs.YtlpgpggaagfdnaaDoor.Op
