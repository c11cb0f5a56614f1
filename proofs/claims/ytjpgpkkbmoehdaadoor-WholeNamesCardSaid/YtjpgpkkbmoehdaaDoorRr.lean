/- Arguments laid open by names. -/
import Derived.Test.YtjpgpkkbmoehdaaDoorRp
import Derived.WalkKit
import Derived.ProofKit
import Derived.OpenShut
import Derived.ShutString
import Derived.ChangeOld
import Derived.Below
import Derived.Deep.Slices
import Derived.Deep.Strs
import Derived.Lib.SmallJoins
namespace Go.Proofs.YtjpgpkkbmoehdaaDoor.Ra
open Go Go.RowKit Go.ChangeShapes Go.WideShapes Go.Deep
set_option linter.unusedVariables false
set_option linter.unusedSimpArgs false
set_option maxRecDepth 10000
/-- A value that came in. -/
def absC (w : World) (v : Value) : AV := if reach w v = true then absV v else .pl v
theorem absC_ok (w : World) (v : Value) : VR (renSt w) (absC w v) v := by
  unfold absC
  split
  · rename_i h; exact absV_ok w v h
  · exact .pl v
theorem absSt_at {w : World} {i : Nat} {c : Array Value} {e : TypeId} {fz : Nat × Nat} (h : w.heap[i]? = some (.cells c e fz)) : (absSt w).get i = some ⟨c.toList.map (absC w), e, false, i⟩ := by
  simp only [absSt, h]
  rfl
theorem crs (w : World) (vs : List Value) : CR (renSt w) (vs.map (absC w)) vs := ⟨by simp, fun j x v hx hv => by
  rw [List.getElem?_map, hv] at hx
  cases hx
  exact absC_ok w v⟩
structure OpenA {α : Type} (P : Program) (t : TypeId) (s : Nat) (R : World → List AV → α → Prop) (good : α → Prop) (big : α → Nat) : Prop where
  trod : ∀ {H : Type} {enc : TypeId × Value → H} {w : World} {base : Nat} {spare : Nat → Bool} {held : Bool} {fuel : Nat} {cs : List Value} {x : DataW H × List MemPlace}, DataW.trod enc P w base spare held fuel t cs = some x → ∃ a, R w (cs.map (absC w)) a ∧ good a ∧ big a ≤ Rows.uptoBulk x.1
  sz : P.cellsOf t = s
theorem OpenA.Trod {α : Type} {P : Program} {t : TypeId} {s : Nat} {R : World → List AV → α → Prop} {good : α → Prop} {big : α → Nat} (o : OpenA P t s R good big) {H : Type} {enc : TypeId × Value → H} {w : World} {base : Nat} {spare : Nat → Bool} {held : Bool} {v : Value} {D : DataW H} {ps : List MemPlace}
    (h : DataW.Trod enc P w base spare held t v D ps) : ∃ a, R w (v.cells.toList.map (absC w)) a ∧ good a ∧ big a ≤ Rows.uptoBulk D := by
  obtain ⟨fuel, hf⟩ := h
  exact o.trod hf
theorem OpenA.int {P : Program} {t : TypeId} {k : IntKind} (hu : P.underlying t = some (.int k)) (hc : P.cellsOf t = 1) : OpenA P t 1 (fun _ cs n => cs = [.pl (.int k n)]) (fun n => (Lit.int k n).wf = true) (fun _ => 1) where
  trod := by
    intro H enc w base spare held fuel cs x h
    obtain ⟨n, rfl, rfl, hw⟩ := DataW.trod_int hu h
    exact ⟨n, rfl, hw, by simp [Rows.uptoBulk]⟩
  sz := hc
theorem OpenA.bool {P : Program} {t : TypeId} (hu : P.underlying t = some .bool) (hc : P.cellsOf t = 1) : OpenA P t 1 (fun _ cs (b : Bool) => cs = [.pl (.bool b)]) (fun _ => True) (fun _ => 1) where
  trod := by
    intro H enc w base spare held fuel cs x h
    obtain ⟨b, rfl, rfl⟩ := DataW.trod_bool hu h
    exact ⟨b, rfl, trivial, by simp [Rows.uptoBulk]⟩
  sz := hc
theorem bulk_range {H : Type} (n : Nat) (D : Nat → DataW H) (f : Nat → Nat) (h : ∀ i, i < n → f i ≤ Rows.uptoBulk (D i)) : ((List.range n).map f).sum ≤ Rows.uptoBulkAll ((List.range n).map D) := by
  induction n with
  | zero => simp [Rows.uptoBulkAll]
  | succ n ih =>
    have app : ∀ l r : List (DataW H), Rows.uptoBulkAll (l ++ r) = Rows.uptoBulkAll l + Rows.uptoBulkAll r := by
      intro l r
      induction l with
      | nil => simp [Rows.uptoBulkAll]
      | cons x l ih => simp only [List.cons_append, Rows.uptoBulkAll, ih]; omega
    have h1 := ih fun i hi => h i (by omega)
    have h2 := h n (by omega)
    rw [List.range_succ, List.map_append, List.map_append, List.sum_append, app]
    simp only [List.map_cons, List.map_nil, List.sum_cons, List.sum_nil, Rows.uptoBulkAll]
    omega
theorem add_no {a : Addr} (h : a.spot = none) (n : Nat) : a.add n = ⟨a.block, a.off + n, none⟩ := by
  obtain ⟨b, o, sp⟩ := a
  subst h
  unfold Addr.add
  split
  · rename_i h; subst h; rfl
  · rfl
theorem OpenA.slice {α : Type} [Inhabited α] {P : Program} {t e : TypeId} {s : Nat} {R : World → List AV → α → Prop} {good : α → Prop} {big : α → Nat} (hu : P.underlying t = some (.slice e)) (hc : P.cellsOf t = 1) (hs : 0 < s) (o : OpenA P e s R good big) :
    OpenA P t 1 (fun w cs xs => ∃ v, cs = [v] ∧ RdL (absSt w) (fun _ => True) s (R w) v xs) (fun xs => ∀ x ∈ xs, good x) (fun xs => (xs.map big).sum + 1) where
  trod := by
    intro H enc w base spare held fuel cs x h
    rcases open_slice hu h with ⟨rfl, rfl⟩ | ⟨a, len, cap, m, n, D, Pl, rfl, _, hl, hm, hmm, rfl, hx⟩
    · exact ⟨[], ⟨_, rfl, .inl ⟨rfl, .inl ⟨_, _, rfl⟩⟩⟩, by simp, by simp [Rows.uptoBulk]⟩
    · have hlm : len ≤ m := by rw [hmm]; split <;> omega
      obtain ⟨X, hX⟩ := choose_lt (α := α) (n := len) (p := fun i y => good y ∧ big y ≤ Rows.uptoBulk (D i) ∧ ∃ cs', w.cells? base (a.add (i * P.cellsOf e)) (P.cellsOf e) = some cs' ∧ R w (cs'.map (absC w)) y) (fun i hi => by
        obtain ⟨cs', h1, h2⟩ := hx i (by omega)
        obtain ⟨y, hy, hg, hb⟩ := o.trod h2
        exact ⟨y, hg, hb, cs', h1, hy⟩)
      refine ⟨(List.range len).map X, ⟨_, rfl, ?_⟩, ?_, ?_⟩
      · by_cases h0 : len = 0
        · subst h0
          refine .inl ⟨rfl, ?_⟩
          obtain ⟨b, off, sp⟩ := a
          cases sp with
          | some q => exact .inl ⟨_, _, by unfold absC; split <;> rfl⟩
          | none =>
            unfold absC
            split
            · simp only [absV]
              rw [if_pos ⟨hl, hm⟩]
              exact .inr ⟨_, _, false, rfl⟩
            · exact .inl ⟨_, _, rfl⟩
        · obtain ⟨_, _, c0, hc0, _⟩ := hX 0 (by omega)
          obtain ⟨_, hlen0, hcell0⟩ := World.cells?_some hc0
          rw [o.sz] at hlen0 hcell0
          have h1 := hcell0 0 hs
          rw [List.getElem?_eq_getElem (by omega)] at h1
          have hsp : a.spot = none := by
            unfold World.cell? at h1
            split at h1
            · have e : (a.add (0 * s)).add 0 = a := by simp [Addr.add]
              rw [e] at h1
              split at h1
              · cases h1
              · rename_i hn; simpa using hn
            · cases h1
          have hblk : ∃ c e' fz, w.heap[a.block]? = some (.cells c e' fz) := by
            unfold World.cell? at h1
            have e : (a.add (0 * s)).add 0 = a := by simp [Addr.add]
            rw [e] at h1
            split at h1
            · rename_i c e' fz hb; exact ⟨c, e', fz, hb⟩
            · cases h1
          obtain ⟨c, e', fz, hb⟩ := hblk
          have hlt : a.block < w.heap.size := (Array.getElem?_eq_some_iff.1 hb).1
          have hat : ∀ j, j < len → ∃ cs' : List Value, cs'.length = s ∧ R w (cs'.map (absC w)) (X j) ∧ ∀ q, q < s → c[a.off + (j * s + q)]? = cs'[q]? := by
            intro j hj
            obtain ⟨_, _, cs', h2, h3⟩ := hX j hj
            obtain ⟨_, hlen', hcell'⟩ := World.cells?_some h2
            rw [o.sz] at hlen' hcell'
            refine ⟨cs', hlen', h3, fun q hq => ?_⟩
            have := hcell' q hq
            rw [add_no hsp, add_no rfl] at this
            unfold World.cell? at this
            simp only [hb] at this
            simpa [Nat.add_assoc] using this
          have habs : absC w (.slice (some a) len cap) = .sl a.block a.off len 0 := by
            obtain ⟨b, off, sp⟩ := a
            subst hsp
            unfold absC
            rw [if_pos (by simpa [reach] using hlt)]
            simp only [absV]
            rw [if_pos ⟨hl, hm⟩]
          refine .inr ⟨a.block, a.off, false, _, by rw [habs, List.length_map, List.length_range]; rfl, absSt_at hb, trivial, ?_, fun j x hj => ?_⟩
          · simp only [List.length_map, List.length_range, Array.length_toList]
            obtain ⟨cs', h2, _, h4⟩ := hat (len - 1) (by omega)
            have h5 := h4 (s - 1) (by omega)
            rw [List.getElem?_eq_getElem (by omega)] at h5
            have h6 := (Array.getElem?_eq_some_iff.1 h5).1
            have h7 : (len - 1) * s + s = len * s := by rw [← Nat.succ_mul]; congr 1; omega
            omega
          · obtain ⟨hj1, hj2⟩ := List.getElem?_eq_some_iff.1 hj
            have hj3 : j < len := by simpa using hj1
            have hp : x = X j := by simpa using hj2.symm
            subst hp
            obtain ⟨cs', h2, h3, h4⟩ := hat j hj3
            have e : ((c.toList.map (absC w)).drop (a.off + j * s)).take s = cs'.map (absC w) := by
              apply List.ext_getElem?
              intro q
              simp only [List.getElem?_take, List.getElem?_drop, List.getElem?_map]
              by_cases hq : q < s
              · rw [if_pos hq, ← h4 q hq, Array.getElem?_toList, Nat.add_assoc]
              · rw [if_neg hq, List.getElem?_eq_none (by omega)]
                rfl
            show R w (((c.toList.map (absC w)).drop (a.off + j * s)).take s) (X j)
            rw [e]
            exact h3
      · intro y hy
        obtain ⟨j, hj, rfl⟩ := List.mem_map.1 hy
        exact (hX j (by simpa using hj)).1
      · rw [List.map_map]
        have := bulk_range len D (big ∘ X) (fun i hi => (hX i hi).2.1)
        simp only [Rows.uptoBulk]
        omega
  sz := hc
/-- The fields of a struct, from the place off on, n cells. -/
structure OpenF {α : Type} (P : Program) (fs : List Field) (off n : Nat) (R : World → List AV → α → Prop) (good : α → Prop) (big : α → Nat) : Prop where
  trod : ∀ {H : Type} {enc : TypeId × Value → H} {w : World} {base : Nat} {spare : Nat → Bool} {held : Bool} {fuel : Nat} {cs : List Value} {xs : List (DataW H × List MemPlace)}, xs.length = fs.length → (∀ (i : Nat) (f : Field), fs[i]? = some f → DataW.trod enc P w base spare held fuel f.type ((cs.drop f.offset).take (P.cellsOf f.type)) = xs[i]?) → ∃ a, R w (((cs.map (absC w)).drop off).take n) a ∧ good a ∧ big a ≤ Rows.uptoBulkAll (xs.map (·.1))
theorem OpenF.last {α : Type} {P : Program} {f : Field} {off s : Nat} {R : World → List AV → α → Prop} {good : α → Prop} {big : α → Nat} (ho : f.offset = off) (o : OpenA P f.type s R good big) : OpenF P [f] off s R good big where
  trod := by
    intro H enc w base spare held fuel cs xs hl h
    match xs, hl with
    | [y], _ =>
      have h0 := h 0 f rfl
      rw [ho, o.sz] at h0
      obtain ⟨a, h1, h2, h3⟩ := o.trod h0
      refine ⟨a, by simpa [List.map_drop, List.map_take] using h1, h2, ?_⟩
      simp only [List.map_cons, List.map_nil, Rows.uptoBulkAll]
      omega
theorem OpenF.cons {α β : Type} {P : Program} {f : Field} {fs : List Field} {off s n : Nat} {R : World → List AV → α → Prop} {good : α → Prop} {big : α → Nat} {R' : World → List AV → β → Prop} {good' : β → Prop} {big' : β → Nat} (ho : f.offset = off) (o : OpenA P f.type s R good big) (r : OpenF P fs (off + s) n R' good' big') :
    OpenF P (f :: fs) off (s + n) (fun w cs (x : α × β) => R w (cs.take s) x.1 ∧ R' w (cs.drop s) x.2) (fun x => good x.1 ∧ good' x.2) (fun x => big x.1 + big' x.2) where
  trod := by
    intro H enc w base spare held fuel cs xs hl h
    match xs, hl with
    | y :: ys, hl =>
      have h0 := h 0 f rfl
      rw [ho, o.sz] at h0
      obtain ⟨a, h1, h2, h3⟩ := o.trod h0
      obtain ⟨b, k1, k2, k3⟩ := r.trod (xs := ys) (cs := cs) (by simpa using hl) (fun i g hg => h (i + 1) g (by simpa using hg))
      refine ⟨(a, b), ⟨?_, ?_⟩, ⟨h2, k2⟩, ?_⟩
      · rw [List.take_take, Nat.min_eq_left (Nat.le_add_right s n)]
        simpa [List.map_drop, List.map_take] using h1
      · rw [List.drop_take, List.drop_drop]
        simpa using k1
      · simp only [List.map_cons, Rows.uptoBulkAll]
        omega
theorem OpenA.struct {α : Type} {P : Program} {t : TypeId} {fs : Array Field} {n : Nat} {R : World → List AV → α → Prop} {good : α → Prop} {big : α → Nat} (hu : P.underlying t = some (.struct fs)) (hc : P.cellsOf t = n) (r : OpenF P fs.toList 0 n R good big) : OpenA P t n R good (fun x => big x + 1) where
  trod := by
    intro H enc w base spare held fuel cs x h
    obtain ⟨xs, m, _, rfl, hl, hlen, hf⟩ := DataW.trod_struct hu h
    obtain ⟨a, h1, h2, h3⟩ := r.trod (xs := xs) (cs := cs) (by simpa using hlen) (fun i f hfi => hf i f (by simpa using hfi))
    refine ⟨a, ?_, h2, ?_⟩
    · rw [List.drop_zero, List.take_of_length_le (by rw [List.length_map, hl, hc]; exact Nat.le_refl n)] at h1
      exact h1
    · simp only [Rows.uptoBulk]
      omega
  sz := hc
/-- Bytes. -/
theorem RdL.bytes {st : St} {K : Nat → Prop} {v : AV} {xs : List Int} (h : RdL st K 1 (fun cs n => cs = [.pl (.int .u8 n)]) v xs) : RdB st K v xs := by
  rcases h with h | ⟨i, off, b, o, h1, h2, h3, h4, h5⟩
  · exact .inl h
  · refine .inr ⟨i, off, b, o, h1, h2, h3, by omega, fun j x hx => ?_⟩
    have := congrArg (fun q => q[0]?) (h5 j x hx)
    simpa [List.getElem?_take] using this
end Go.Proofs.YtjpgpkkbmoehdaaDoor.Ra
