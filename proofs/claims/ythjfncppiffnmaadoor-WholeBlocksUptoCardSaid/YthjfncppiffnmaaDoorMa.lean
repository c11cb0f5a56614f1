/- Several texts in one: what follows is told at each part. -/
import Derived.Orders
import Derived.Laws.AppendOwn
import Derived.Laws.IdiomCopy
import Derived.Laws.IdiomStrings
import Derived.Laws.StructEq
import Derived.Laws.Pointers
import Derived.Laws.Cover3
import Derived.Laws.BytesString
import Derived.Laws.OwnMore
import Derived.Below
/- A machine of values by names: memory is told by names of objects, an append makes a new name and the elder one falls away. What it answers, the machine answers, whatever the tape. -/
namespace Go.Proofs.YthjfncppiffnmaaDoor.Ra
open Go Go.RowKit
set_option linter.unusedVariables false
set_option linter.unusedSimpArgs false

/-- A value: plain (no memory in it), a slice (object, place, length, an element's cells; 0: not known, then it is only read), an address, a function with what it has caught, a struct by its cells, several results; 'top': anything. -/
inductive AV where
  | pl (v : Value)
  | sl (id off len es : Nat)
  | ptr (id off : Nat)
  | fn (f : FuncId) (caps : List AV)
  | agg (xs : List AV)
  | tup (xs : List AV)
  | top
  deriving Inhabited
def AV.one : AV → Bool
  | .pl v => v.oneCell'
  | .agg _ | .tup _ | .top => false
  | _ => true
def AV.solid : AV → Bool
  | .top => false
  | _ => true
def AV.cells : AV → List AV
  | .agg xs => xs
  | .pl v => v.cells.toList.map .pl
  | x => [x]
structure AObj where
  cells : List AV
  elem : TypeId
  own : Bool
  grp : Nat
structure St where
  n : Nat
  get : Nat → Option AObj
def St.bump (st : St) (k : Nat) : St := { st with n := st.n + k }
def St.put (st : St) (i : Nat) (o : AObj) : St := { st with get := fun j => if j = i then some o else st.get j }
/-- The places from off on, n of them, may have been turned. -/
def topR (xs : List AV) (off n : Nat) : List AV := xs.take off ++ List.replicate (min n (xs.length - off)) .top ++ xs.drop (off + n)
/-- Objects of one group may lie in one block, place by place. -/
def St.touch (st : St) (g off n : Nat) : St := { st with get := fun j => (st.get j).map fun o => if o.grp = g then { o with cells := topR o.cells off n } else o }
def St.kill (st : St) (g : Nat) : St := { st with get := fun j => (st.get j).bind fun o => if o.grp = g then none else some o }

/-- Where an object lies: its block, its beginning in it, the block's cells, an element's cells; may it be written. -/
structure Loc where
  blk : Nat
  base : Nat
  lim : Nat
  esz : Nat
  own : Bool
abbrev Ren := Nat → Option Loc

inductive VR (σ : Ren) : AV → Value → Prop
  | pl (v : Value) : VR σ (.pl v) v
  | sl {i off len es cap o : Nat} {l : Loc} (h : σ i = some l) (hc : len ≤ cap) (hm : cap ≤ maxLen) (ho : cap = 0 ∨ o = l.base + off) (hl : l.own = true → es = l.esz ∧ 0 < es ∧ l.base + off + cap * es ≤ l.lim) : VR σ (.sl i off len es) (.slice (some ⟨l.blk, o, none⟩) len cap)
  | ptr {i off : Nat} {l : Loc} (h : σ i = some l) : VR σ (.ptr i off) (.pointer (some ⟨l.blk, l.base + off, none⟩))
  | fn {f : FuncId} {xs : List AV} {vs : Array Value} (hn : xs.length = vs.size) (h : ∀ (i : Nat) (x : AV) (v : Value), xs[i]? = some x → vs[i]? = some v → VR σ x v) : VR σ (.fn f xs) (.func (.func f) #[] vs)
  | agg {xs : List AV} {vs : Array Value} (hn : xs.length = vs.size) (h : ∀ (i : Nat) (x : AV) (v : Value), xs[i]? = some x → vs[i]? = some v → VR σ x v) : VR σ (.agg xs) (.agg vs)
  | tup {xs : List AV} {vs : Array Value} (hn : xs.length = vs.size) (h : ∀ (i : Nat) (x : AV) (v : Value), xs[i]? = some x → vs[i]? = some v → VR σ x v) : VR σ (.tup xs) (.tuple vs)
  | top (v : Value) : VR σ .top v

def Sub (σ σ' : Ren) : Prop := ∀ i l, σ i = some l → σ' i = some l
theorem Sub.refl (σ : Ren) : Sub σ σ := fun _ _ h => h
theorem Sub.trans {σ σ' σ'' : Ren} (h : Sub σ σ') (k : Sub σ' σ'') : Sub σ σ'' := fun i l hi => k i l (h i l hi)
theorem VR.sub {σ σ' : Ren} (hs : Sub σ σ') {x : AV} {v : Value} (h : VR σ x v) : VR σ' x v := by
  induction h with
  | pl v => exact .pl v
  | sl h hc hm ho hl => exact .sl (hs _ _ h) hc hm ho hl
  | ptr h => exact .ptr (hs _ _ h)
  | fn hn _ ih => exact .fn hn ih
  | agg hn _ ih => exact .agg hn ih
  | tup hn _ ih => exact .tup hn ih
  | top v => exact .top v
theorem VR.one {σ : Ren} {x : AV} {v : Value} (h : VR σ x v) (h1 : x.one = true) : v.oneCell' = true := by
  cases h <;> first | rfl | exact h1 | (simp [AV.one] at h1)

/-- Cell by cell. -/
def CR (σ : Ren) (xs : List AV) (vs : List Value) : Prop := xs.length = vs.length ∧ ∀ (j : Nat) (x : AV) (v : Value), xs[j]? = some x → vs[j]? = some v → VR σ x v
theorem CR.sub {σ σ' : Ren} (hs : Sub σ σ') {xs : List AV} {vs : List Value} (h : CR σ xs vs) : CR σ' xs vs := ⟨h.1, fun j x v hx hv => (h.2 j x v hx hv).sub hs⟩
theorem CR.nil (σ : Ren) : CR σ [] [] := ⟨rfl, fun j x v hx => by simp at hx⟩
theorem CR.pls (σ : Ren) (vs : List Value) : CR σ (vs.map .pl) vs := ⟨by simp, fun j x v hx hv => by
  rw [List.getElem?_map, hv] at hx
  simp at hx
  subst hx
  exact .pl v⟩
theorem CR.at {σ : Ren} {xs : List AV} {vs : List Value} (h : CR σ xs vs) {j : Nat} {x : AV} (hx : xs[j]? = some x) : ∃ v, vs[j]? = some v ∧ VR σ x v := by
  obtain ⟨hj, _⟩ := List.getElem?_eq_some_iff.1 hx
  have hj2 : j < vs.length := by rw [← h.1]; exact hj
  exact ⟨vs[j], List.getElem?_eq_getElem hj2, h.2 j x _ hx (List.getElem?_eq_getElem hj2)⟩
theorem CR.take {σ : Ren} {xs : List AV} {vs : List Value} (h : CR σ xs vs) (n : Nat) : CR σ (xs.take n) (vs.take n) := ⟨by simp [h.1], fun j x v hx hv => by
  rw [List.getElem?_take] at hx hv
  split at hx
  · rw [if_pos (by assumption)] at hv; exact h.2 j x v hx hv
  · cases hx⟩
theorem CR.drop {σ : Ren} {xs : List AV} {vs : List Value} (h : CR σ xs vs) (n : Nat) : CR σ (xs.drop n) (vs.drop n) := ⟨by simp [h.1], fun j x v hx hv => by
  rw [List.getElem?_drop] at hx hv
  exact h.2 _ x v hx hv⟩
theorem CR.append {σ : Ren} {xs ys : List AV} {vs us : List Value} (h : CR σ xs vs) (k : CR σ ys us) : CR σ (xs ++ ys) (vs ++ us) := ⟨by simp [h.1, k.1], fun j x v hx hv => by
  rw [List.getElem?_append] at hx hv
  rw [h.1] at hx
  split at hx
  · rw [if_pos (by assumption)] at hv; exact h.2 j x v hx hv
  · rw [if_neg (by assumption)] at hv; exact k.2 _ x v hx hv⟩
theorem CR.ones {σ : Ren} {xs : List AV} {vs : List Value} (h : CR σ xs vs) (h1 : xs.all AV.one = true) : ∀ v ∈ vs, v.oneCell' = true := by
  intro v hv
  obtain ⟨j, hj⟩ := List.mem_iff_getElem?.1 hv
  obtain ⟨hlt, _⟩ := List.getElem?_eq_some_iff.1 hj
  have hx := List.getElem?_eq_getElem (l := xs) (i := j) (by rw [h.1]; exact hlt)
  exact (h.2 j _ v hx hj).one (List.all_eq_true.1 h1 _ (List.mem_of_getElem? hx))
theorem VR.cells {σ : Ren} {x : AV} {v : Value} (h : VR σ x v) (hx : x.solid = true) : CR σ x.cells v.cells.toList := by
  cases h with
  | top v => cases hx
  | pl v => exact CR.pls σ _
  | agg hn h => exact ⟨by simpa [AV.cells, Value.cells] using hn, fun j x v hx hv => h j x v hx (by simpa [Value.cells] using hv)⟩
  | sl a b c d e => exact ⟨rfl, fun j x v hx hv => by cases j with | zero => simp [AV.cells, Value.cells] at hx hv; subst hx; subst hv; exact .sl a b c d e | succ j => simp [AV.cells] at hx⟩
  | ptr a => exact ⟨rfl, fun j x v hx hv => by cases j with | zero => simp [AV.cells, Value.cells] at hx hv; subst hx; subst hv; exact .ptr a | succ j => simp [AV.cells] at hx⟩
  | fn a b => exact ⟨rfl, fun j x v hx hv => by cases j with | zero => simp [AV.cells, Value.cells] at hx hv; subst hx; subst hv; exact .fn a b | succ j => simp [AV.cells] at hx⟩
  | tup a b => exact ⟨rfl, fun j x v hx hv => by cases j with | zero => simp [AV.cells, Value.cells] at hx hv; subst hx; subst hv; exact .tup a b | succ j => simp [AV.cells] at hx⟩

theorem topR_len (xs : List AV) (off n : Nat) : (topR xs off n).length = xs.length := by
  simp only [topR, List.length_append, List.length_take, List.length_replicate, List.length_drop]
  omega
theorem topR_at (xs : List AV) (off n j : Nat) (x : AV) (h : (topR xs off n)[j]? = some x) : x = .top ∨ (xs[j]? = some x ∧ (j < off ∨ off + n ≤ j)) := by
  have hj : j < xs.length := by rw [← topR_len xs off n]; exact (List.getElem?_eq_some_iff.1 h).1
  unfold topR at h
  by_cases h1 : j < off
  · rw [List.append_assoc, List.getElem?_append_left (by rw [List.length_take]; omega), List.getElem?_take, if_pos h1] at h
    exact .inr ⟨h, .inl h1⟩
  · by_cases h2 : j < off + n
    · rw [List.append_assoc, List.getElem?_append_right (by rw [List.length_take]; omega), List.length_take, List.getElem?_append_left (by rw [List.length_replicate]; omega), List.getElem?_replicate] at h
      split at h
      · exact .inl (by simpa using h.symm)
      · cases h
    · rw [List.getElem?_append_right (by rw [List.length_append, List.length_take, List.length_replicate]; omega), List.getElem?_drop] at h
      refine .inr ⟨?_, .inr (by omega)⟩
      rw [← h]
      congr 1
      rw [List.length_append, List.length_take, List.length_replicate]
      omega
/-- Cells that have turned within the places alone. -/
theorem CR.topR {σ : Ren} {xs : List AV} {vs us : List Value} (h : CR σ xs vs) (off n : Nat) (hl : us.length = vs.length) (he : ∀ j, (j < off ∨ off + n ≤ j) → us[j]? = vs[j]?) : CR σ (topR xs off n) us :=
  ⟨by rw [topR_len, h.1, hl], fun j x v hx hv => by
    rcases topR_at xs off n j x hx with rfl | ⟨h1, h2⟩
    · exact .top v
    · exact h.2 j x v h1 (by rw [← he j h2]; exact hv)⟩
theorem topR_short (xs : List AV) (off n : Nat) (h : xs.length ≤ off) : topR xs off n = xs := by
  unfold _root_.Go.Proofs.YthjfncppiffnmaaDoor.Ra.topR
  rw [List.take_of_length_le h, List.drop_of_length_le (by omega), Nat.sub_eq_zero_of_le h]
  simp
/-- An object in memory. -/
def ObjOK (P : Program) (σ : Ren) (w : World) (l : Loc) (o : AObj) : Prop :=
  o.own = l.own ∧ ∃ c e fz, w.heap[l.blk]? = some (.cells c e fz) ∧ CR σ o.cells ((c.toList.drop l.base).take o.cells.length) ∧
    (l.own = true → fz = (0, 0) ∧ e = o.elem ∧ c.size = l.lim ∧ (P.info? e).map (·.size) = some l.esz ∧ l.base + o.cells.length ≤ c.size)
structure Sim (P : Program) (w0 : World) (σ : Ren) (st : St) (w : World) : Prop where
  below : Below w0.heap.size w0 w
  dom : ∀ i, st.n ≤ i → σ i = none
  obj : ∀ i o, st.get i = some o → ∃ l, σ i = some l ∧ ObjOK P σ w l o
  place : ∀ i l, σ i = some l → (l.own = false ∧ l.blk < w.heap.size) ∨ (l.own = true ∧ w0.heap.size ≤ l.blk ∧ l.blk < w.heap.size)
  alias : ∀ i j o o' l l', st.get i = some o → st.get j = some o' → σ i = some l → σ j = some l' → l.own = true → l.blk = l'.blk → o.grp = o'.grp ∧ l.base = l'.base
  init : ∀ g, g < P.globals.size → σ g = some ⟨g, 0, 0, 0, false⟩

abbrev AFr := Nat → AV
def FR (σ : Ren) (fr : AFr) (a : Act) : Prop := ∀ t, VR σ (fr t) (a.tmps.getD t undef) ∧ (fr t).solid = true
def aput (fr : AFr) (d : Option Tmp) (v : AV) : AFr := match d with | some d => fun t => if t = d then v else fr t | none => fr
def aeval (fr : AFr) : Operand → AV
  | .tmp t => fr t
  | .const v => .pl v
  | .global g => .pl (.pointer (some ⟨g, 0, none⟩))
  | .func f => .fn f []
theorem FR.eval {σ : Ren} {fr : AFr} {a : Act} (h : FR σ fr a) (x : Operand) : VR σ (aeval fr x) (a.eval x) := by
  cases x with
  | tmp t => exact (h t).1
  | const v => exact .pl v
  | global g => exact .pl _
  | func f => exact .fn rfl (fun i x v hx => by simp at hx)
theorem FR.evalSolid {σ : Ren} {fr : AFr} {a : Act} (h : FR σ fr a) (x : Operand) : (aeval fr x).solid = true := by
  cases x with
  | tmp t => exact (h t).2
  | _ => rfl
theorem FR.sub {σ σ' : Ren} (hs : Sub σ σ') {fr : AFr} {a : Act} (h : FR σ fr a) : FR σ' fr a := fun t => ⟨(h t).1.sub hs, (h t).2⟩
theorem FR.put {σ : Ren} {fr : AFr} {a : Act} (h : FR σ fr a) {d : Option Tmp} {v : AV} {u : Value} (hv : VR σ v u) (hsol : v.solid = true) (hd : ∀ t, d = some t → t < a.tmps.size) : FR σ (aput fr d v) (a.put d u) := by
  intro t
  cases d with
  | none => exact h t
  | some d =>
    have hlt := hd d rfl
    by_cases e : t = d
    · subst e
      exact ⟨by simpa [aput, Act.put, hlt] using hv, by simpa [aput] using hsol⟩
    · have := h t
      simp [aput, Act.put, e, Array.getElem?_setIfInBounds_ne (Ne.symm e)] at this ⊢
      exact this

def putsOK (nt : Nat) (ops : Array Oper) : Bool := ops.all fun o => match o.dst with | some d => decide (d < nt) | none => true
def codeOK (nt : Nat) : Code → Bool
  | .region _ ops _ => putsOK nt ops
  | .seq a b => codeOK nt a && codeOK nt b
  | .cond _ a b => codeOK nt a && codeOK nt b
  | .block _ c => codeOK nt c
  | .loop c => codeOK nt c
  | _ => true

inductive AExit where
  | normal
  | exit (id : Nat)
  | ret
  deriving DecidableEq
def AExit.is : AExit → Exit → Prop
  | .normal, .normal => True
  | .exit i, .exit j => i = j
  | .ret, .ret => True
  | _, _ => False

abbrev ACall := FuncId → List AV → St → Option (AV × St)

def awanted (ops : Array Oper) (fr : AFr) (o : Oper) : Bool :=
  match o.guard with
  | none => true
  | some (j, want) => match (ops[j]?).bind (·.dst) with
    | none => false
    | some d => match fr d with | .pl (.bool b) => b == want | _ => false
end Go.Proofs.YthjfncppiffnmaaDoor.Ra
/- What memory does to the names. -/
namespace Go.Proofs.YthjfncppiffnmaaDoor.Ra
open Go Go.RowKit
set_option linter.unusedVariables false
set_option linter.unusedSimpArgs false
section
variable {P : Program} {w0 : World} {σ : Ren} {st : St} {w : World}

theorem ObjOK.step {l : Loc} {o : AObj} {w' : World} {σ' : Ren} (h : ObjOK P σ w l o) (hs : Sub σ σ') (hb : w'.heap[l.blk]? = w.heap[l.blk]?) : ObjOK P σ' w' l o := by
  obtain ⟨h1, c, e, fz, h2, h3, h4⟩ := h
  exact ⟨h1, c, e, fz, hb.trans h2, h3.sub hs, h4⟩
theorem Sim.lt (h : Sim P w0 σ st w) {i : Nat} {l : Loc} (hi : σ i = some l) : l.blk < w.heap.size := by
  rcases h.place i l hi with h | h
  · exact h.2
  · exact h.2.2
theorem Sim.drew (h : Sim P w0 σ st w) : Sim P w0 σ st w.drew :=
  ⟨h.below.drew, h.dom, h.obj, h.place, h.alias, h.init⟩
/-- Only what is told of the store may fall away. -/
theorem Sim.bump (h : Sim P w0 σ st w) (k : Nat) : Sim P w0 σ (st.bump k) w :=
  ⟨h.below, fun i hi => h.dom i (by simp only [St.bump] at hi; omega), h.obj, h.place, h.alias, h.init⟩
def Ren.set (σ : Ren) (i : Nat) (l : Loc) : Ren := fun j => if j = i then some l else σ j
theorem Ren.set_sub (σ : Ren) {i : Nat} (hi : σ i = none) (l : Loc) : Sub σ (σ.set i l) := fun j m hj => by
  have : j ≠ i := fun e => by rw [e, hi] at hj; cases hj
  simp [Ren.set, this, hj]
theorem Ren.set_at (σ : Ren) (i : Nat) (l : Loc) : (σ.set i l) i = some l := by simp [Ren.set]
/-- A new block. -/
theorem Sim.new (h : Sim P w0 σ st w) {id : Nat} (hid : σ id = none) (hn : id < st.n) {xs : List AV} {c : Array Value} {e : TypeId} {s : Nat} (hs : (P.info? e).map (·.size) = some s)
    (hc : CR σ xs (c.toList.take xs.length)) (fz : Nat × Nat) (own : Bool) (g : Nat) (hf : own = true → fz = (0, 0)) :
    Sim P w0 (σ.set id ⟨w.heap.size, 0, c.size, s, own⟩) (st.put id ⟨xs, e, own, g⟩) (w.alloc (.cells c e fz)) := by
  have hsub := Ren.set_sub σ hid ⟨w.heap.size, 0, c.size, s, own⟩
  have hold : ∀ k, k < w.heap.size → (w.alloc (.cells c e fz)).heap[k]? = w.heap[k]? := fun k hk => Below.heap_alloc w _ k hk
  refine ⟨h.below.alloc (h.below.size) _, fun i hi => ?_, fun i o hi => ?_, fun i l hi => ?_, fun i j o o' l l' hi hj hli hlj hown hblk => ?_, fun g hg => hsub _ _ (h.init g hg)⟩
  · have : i ≠ id := by simp only [St.put] at hi; omega
    simp only [Ren.set, this, if_false]
    exact h.dom i hi
  · by_cases e1 : i = id
    · subst e1
      simp only [St.put, if_true, Option.some.injEq] at hi
      subst hi
      refine ⟨_, Ren.set_at _ _ _, rfl, c, e, fz, heap_alloc_new w _, ?_, fun ho => ⟨hf ho, rfl, rfl, hs, ?_⟩⟩
      · simpa using hc.sub hsub
      · have := hc.1
        simp only [List.length_take, Array.length_toList] at this
        simp only [Nat.zero_add]
        omega
    · simp only [St.put, e1, if_false] at hi
      obtain ⟨l, hl, hob⟩ := h.obj i o hi
      exact ⟨l, hsub i l hl, hob.step hsub (hold _ (h.lt hl))⟩
  · by_cases e1 : i = id
    · subst e1
      rw [Ren.set_at] at hi
      cases hi
      cases own with
      | true => exact .inr ⟨rfl, h.below.size, by simp⟩
      | false => exact .inl ⟨rfl, by simp⟩
    · simp only [Ren.set, e1, if_false] at hi
      rcases h.place i l hi with h1 | h1
      · exact .inl ⟨h1.1, by have := h1.2; simp; omega⟩
      · exact .inr ⟨h1.1, h1.2.1, by have := h1.2.2; simp; omega⟩
  · by_cases e1 : i = id
    · by_cases e2 : j = id
      · subst e1; subst e2
        rw [hi] at hj
        cases hj
        rw [hli] at hlj
        cases hlj
        exact ⟨rfl, rfl⟩
      · subst e1
        rw [Ren.set_at] at hli
        cases hli
        simp only [Ren.set, e2, if_false] at hlj
        have := h.lt hlj
        simp only at hblk
        omega
    · by_cases e2 : j = id
      · subst e2
        rw [Ren.set_at] at hlj
        cases hlj
        simp only [Ren.set, e1, if_false] at hli
        have := h.lt hli
        simp only at hblk
        omega
      · simp only [St.put, e1, e2, if_false] at hi hj
        simp only [Ren.set, e1, e2, if_false] at hli hlj
        exact h.alias i j o o' l l' hi hj hli hlj hown hblk
theorem below_setRow {B : Nat} {a w : World} (h : Below B a w) {g : Nat} (hg : B ≤ g) (c : Array Value) : Below B a (w.setRow g c) :=
  ⟨h.os, h.tape, h.output, by rw [setRow_size]; exact h.size, fun k hk => (setRow_other w g k c (by omega)).trans (h.block k hk)⟩
theorem touch_inv {g off n j : Nat} {o : AObj} (h : (st.touch g off n).get j = some o) : ∃ y, st.get j = some y ∧ o.grp = y.grp ∧ o.elem = y.elem ∧ o.own = y.own ∧ ((y.grp = g ∧ o.cells = topR y.cells off n) ∨ (y.grp ≠ g ∧ o = y)) := by
  simp only [St.touch] at h
  obtain ⟨y, hy, rfl⟩ := Option.map_eq_some_iff.1 h
  refine ⟨y, hy, ?_⟩
  by_cases e : y.grp = g
  · rw [if_pos e]; exact ⟨rfl, rfl, rfl, .inl ⟨e, rfl⟩⟩
  · rw [if_neg e]; exact ⟨rfl, rfl, rfl, .inr ⟨e, rfl⟩⟩
/-- A row is written, within some places of an object: what is told of the others, by groups. -/
theorem Sim.others (h : Sim P w0 σ st w) {i : Nat} {o : AObj} {l : Loc} (hi : st.get i = some o) (hl : σ i = some l) (hown : l.own = true) {c0 c : Array Value} {e0 : TypeId} {fz0 : Nat × Nat} (hb : w.heap[l.blk]? = some (.cells c0 e0 fz0)) (hsz : c.size = c0.size)
    {off n : Nat} (hc : ∀ q, (q < l.base + off ∨ l.base + off + n ≤ q) → c[q]? = c0[q]?) {σ' : Ren} (hs : Sub σ σ') {j : Nat} {o' : AObj} (hj : (st.touch o.grp off n).get j = some o') :
    ∃ l', σ j = some l' ∧ ObjOK P σ' (w.setRow l.blk c) l' o' := by
  obtain ⟨y, hy, e1, e2, e3, hcase⟩ := touch_inv hj
  obtain ⟨l', hl', hob⟩ := h.obj j y hy
  refine ⟨l', hl', ?_⟩
  by_cases hblk : l.blk = l'.blk
  · obtain ⟨g1, g2⟩ := h.alias i j o y l l' hi hy hl hl' hown hblk
    rcases hcase with ⟨_, hcells⟩ | ⟨hne, _⟩
    · obtain ⟨h1, c1, e4, fz1, h2, h3, h4⟩ := hob
      rw [← hblk, hb] at h2
      cases h2
      refine ⟨by rw [e3]; exact h1, c, e0, fz0, by rw [← hblk]; exact setRow_heap w l.blk _ c _ _ hb, ?_, fun ho => ?_⟩
      · rw [hcells, topR_len]
        have hlen := h3.1
        simp only [List.length_take, List.length_drop, Array.length_toList] at hlen
        refine (h3.sub hs).topR off n (by simp only [List.length_take, List.length_drop, Array.length_toList, hsz]) (fun q hq => ?_)
        simp only [List.getElem?_take, List.getElem?_drop, Array.getElem?_toList]
        split
        · exact hc _ (by rw [g2]; omega)
        · rfl
      · obtain ⟨k1, k2, k3, k4, k5⟩ := h4 ho
        exact ⟨k1, k2.trans e2.symm, by rw [hsz]; exact k3, k4, by rw [hsz, hcells, topR_len]; exact k5⟩
    · exact absurd g1.symm hne
  · have hoth := setRow_other w l.blk l'.blk c (fun e => hblk e.symm)
    rcases hcase with ⟨_, hcells⟩ | ⟨_, rfl⟩
    · obtain ⟨h1, c1, e4, fz1, h2, h3, h4⟩ := hob
      refine ⟨by rw [e3]; exact h1, c1, e4, fz1, hoth.trans h2, ?_, fun ho => ?_⟩
      · rw [hcells, topR_len]
        exact (h3.sub hs).topR off n rfl (fun _ _ => rfl)
      · obtain ⟨k1, k2, k3, k4, k5⟩ := h4 ho
        exact ⟨k1, k2.trans e2.symm, k3, k4, by rw [hcells, topR_len]; exact k5⟩
    · exact hob.step hs hoth
theorem Sim.touched (h : Sim P w0 σ st w) (g off n : Nat) : Sim P w0 σ (st.touch g off n) w := by
  refine ⟨h.below, h.dom, fun j o hj => ?_, h.place, fun i j o o' l l' hi hj hli hlj ho hb => ?_, h.init⟩
  · obtain ⟨y, hy, e1, e2, e3, hcase⟩ := touch_inv hj
    obtain ⟨l', hl', h1, c1, e4, fz1, h2, h3, h4⟩ := h.obj j y hy
    rcases hcase with ⟨_, hcells⟩ | ⟨_, rfl⟩
    · refine ⟨l', hl', by rw [e3]; exact h1, c1, e4, fz1, h2, ?_, fun ho => ?_⟩
      · rw [hcells, topR_len]
        exact h3.topR off n rfl (fun _ _ => rfl)
      · obtain ⟨k1, k2, k3, k4, k5⟩ := h4 ho
        exact ⟨k1, k2.trans e2.symm, k3, k4, by rw [hcells, topR_len]; exact k5⟩
    · exact ⟨l', hl', h1, c1, e4, fz1, h2, h3, h4⟩
  · obtain ⟨y, hy, e1, _⟩ := touch_inv hi
    obtain ⟨z, hz, e2, _⟩ := touch_inv hj
    rw [e1, e2]
    exact h.alias i j y z l l' hy hz hli hlj ho hb
/-- A store into an object. -/
theorem Sim.write (h : Sim P w0 σ st w) {i : Nat} {o : AObj} {l : Loc} (hi : st.get i = some o) (hl : σ i = some l) (hown : l.own = true) {c0 : Array Value} {e0 : TypeId} {fz0 : Nat × Nat} (hb : w.heap[l.blk]? = some (.cells c0 e0 fz0))
    {xs : List AV} {c : Array Value} {off n : Nat} (hsz : c.size = c0.size) (hlen : xs.length = o.cells.length) (hc0 : ∀ q, (q < l.base + off ∨ l.base + off + n ≤ q) → c[q]? = c0[q]?) (hc : CR σ xs ((c.toList.drop l.base).take xs.length)) :
    Sim P w0 σ ((st.touch o.grp off n).put i { o with cells := xs }) (w.setRow l.blk c) := by
  obtain ⟨l2, hl2, hob⟩ := h.obj i o hi
  rw [hl] at hl2
  cases hl2
  obtain ⟨h1, c1, e1, fz1, h2, h3, h4⟩ := hob
  rw [hb] at h2
  cases h2
  have hp := h.place i l hl
  rcases hp with hp | hp
  · rw [hown] at hp; cases hp.1
  refine ⟨below_setRow h.below hp.2.1 c, h.dom, fun j o' hj => ?_, fun j l' hj => ?_, fun j k o' o'' l' l'' hj hk hlj hlk ho hbk => ?_, h.init⟩
  · by_cases e : j = i
    · subst e
      simp only [St.put, if_true, Option.some.injEq] at hj
      subst hj
      refine ⟨l, hl, h1, c, e0, fz0, setRow_heap w l.blk _ c _ _ hb, hc, fun ho => ?_⟩
      obtain ⟨g1, g2, g3, g4, g5⟩ := h4 ho
      exact ⟨g1, g2, by rw [hsz]; exact g3, g4, by rw [hsz]; simp only [hlen]; exact g5⟩
    · simp only [St.put, e, if_false] at hj
      exact h.others hi hl hown hb hsz hc0 (Sub.refl σ) hj
  · rw [setRow_size]
    exact h.place j l' hj
  · have live : ∀ {q : Nat} {x : AObj}, ((st.touch o.grp off n).put i { o with cells := xs }).get q = some x → ∃ y, st.get q = some y ∧ x.grp = y.grp := by
      intro q x hq
      by_cases e : q = i
      · subst e
        simp only [St.put, if_true, Option.some.injEq] at hq
        exact ⟨o, hi, by rw [← hq]⟩
      · simp only [St.put, e, if_false] at hq
        obtain ⟨y, hy, e1, _⟩ := touch_inv hq
        exact ⟨y, hy, e1⟩
    obtain ⟨y, hy, ey⟩ := live hj
    obtain ⟨z, hz, ez⟩ := live hk
    rw [ey, ez]
    exact h.alias j k y z l' l'' hy hz hlj hlk ho hbk
/-- An append that finds room, to all that is told of a row: a name more for the row. -/
theorem Sim.extend (h : Sim P w0 σ st w) {i : Nat} {o : AObj} {l : Loc} (hi : st.get i = some o) (hl : σ i = some l) (hown : l.own = true) {c0 : Array Value} {e0 : TypeId} {fz0 : Nat × Nat} (hb : w.heap[l.blk]? = some (.cells c0 e0 fz0))
    {id : Nat} (hid : σ id = none) (hn : id < st.n) {xs : List AV} {c : Array Value} {off n : Nat} (hsz : c.size = c0.size) (hlen : l.base + xs.length ≤ c.size) (hc0 : ∀ q, (q < l.base + off ∨ l.base + off + n ≤ q) → c[q]? = c0[q]?) (hc : CR σ xs ((c.toList.drop l.base).take xs.length)) :
    Sim P w0 (σ.set id ⟨l.blk, l.base, l.lim, l.esz, true⟩) ((st.touch o.grp off n).put id ⟨xs, o.elem, true, o.grp⟩) (w.setRow l.blk c) := by
  obtain ⟨l2, hl2, hob⟩ := h.obj i o hi
  rw [hl] at hl2
  cases hl2
  obtain ⟨h1, c1, e1, fz1, h2, h3, h4⟩ := hob
  rw [hb] at h2
  cases h2
  obtain ⟨g1, g2, g3, g4, g5⟩ := h4 hown
  have hp := h.place i l hl
  rcases hp with hp | hp
  · rw [hown] at hp; cases hp.1
  have hsub := Ren.set_sub σ hid ⟨l.blk, l.base, l.lim, l.esz, true⟩
  refine ⟨below_setRow h.below hp.2.1 c, fun j hj => ?_, fun j o' hj => ?_, fun j l' hj => ?_, fun j k o' o'' l' l'' hj hk hlj hlk ho hbk => ?_, fun g hg => hsub _ _ (h.init g hg)⟩
  · have : j ≠ id := by simp only [St.put, St.touch] at hj; omega
    simp only [Ren.set, this, if_false]
    exact h.dom j hj
  · by_cases e : j = id
    · subst e
      simp only [St.put, if_true, Option.some.injEq] at hj
      subst hj
      exact ⟨_, Ren.set_at _ _ _, rfl, c, e0, fz0, setRow_heap w l.blk _ c _ _ hb, hc.sub hsub, fun _ => ⟨g1, g2, by rw [hsz]; exact g3, g4, hlen⟩⟩
    · simp only [St.put, e, if_false] at hj
      obtain ⟨l', hl', hob'⟩ := h.others hi hl hown hb hsz hc0 hsub hj
      exact ⟨l', hsub j l' hl', hob'⟩
  · rw [setRow_size]
    by_cases e : j = id
    · subst e
      rw [Ren.set_at] at hj
      cases hj
      exact .inr ⟨rfl, hp.2.1, hp.2.2⟩
    · simp only [Ren.set, e, if_false] at hj
      exact h.place j l' hj
  · have live : ∀ {q : Nat} {x : AObj}, q ≠ id → ((st.touch o.grp off n).put id ⟨xs, o.elem, true, o.grp⟩).get q = some x → ∃ y, st.get q = some y ∧ x.grp = y.grp := by
      intro q x hne hq
      simp only [St.put, hne, if_false] at hq
      obtain ⟨y, hy, e1, _⟩ := touch_inv hq
      exact ⟨y, hy, e1⟩
    by_cases e1 : j = id
    · subst e1
      rw [Ren.set_at] at hlj
      cases hlj
      simp only [St.put, if_true, Option.some.injEq] at hj
      by_cases e2 : k = j
      · subst e2
        rw [Ren.set_at] at hlk
        cases hlk
        simp only [St.put, if_true, Option.some.injEq] at hk
        rw [← hj, ← hk]
        exact ⟨rfl, rfl⟩
      · obtain ⟨y, hy, ey⟩ := live e2 hk
        simp only [Ren.set, e2, if_false] at hlk
        have := h.alias i k o y l l'' hi hy hl hlk hown hbk
        rw [ey, ← hj]
        exact this
    · obtain ⟨y, hy, ey⟩ := live e1 hj
      simp only [Ren.set, e1, if_false] at hlj
      by_cases e2 : k = id
      · subst e2
        rw [Ren.set_at] at hlk
        cases hlk
        simp only [St.put, if_true, Option.some.injEq] at hk
        have := h.alias j i y o l' l hy hi hlj hl ho hbk
        rw [ey, ← hk]
        exact this
      · obtain ⟨z, hz, ez⟩ := live e2 hk
        simp only [Ren.set, e2, if_false] at hlk
        rw [ey, ez]
        exact h.alias j k y z l' l'' hy hz hlj hlk ho hbk
theorem kill_inv {g j : Nat} {o : AObj} (h : (st.kill g).get j = some o) : st.get j = some o ∧ o.grp ≠ g := by
  simp only [St.kill] at h
  obtain ⟨y, hy, h2⟩ := Option.bind_eq_some_iff.1 h
  split at h2
  · cases h2
  · rename_i hne
    cases h2
    exact ⟨hy, hne⟩
theorem Sim.kill (h : Sim P w0 σ st w) (g : Nat) : Sim P w0 σ (st.kill g) w :=
  ⟨h.below, h.dom, fun j o hj => h.obj j o (kill_inv hj).1, h.place, fun j k o o' l l' hj hk => h.alias j k o o' l l' (kill_inv hj).1 (kill_inv hk).1, h.init⟩
/-- An append that finds room, to the end of a row: the elder names fall away. -/
theorem Sim.extendCut (h : Sim P w0 σ st w) {i : Nat} {o : AObj} {l : Loc} (hi : st.get i = some o) (hl : σ i = some l) (hown : l.own = true) {c0 : Array Value} {e0 : TypeId} {fz0 : Nat × Nat} (hb : w.heap[l.blk]? = some (.cells c0 e0 fz0))
    {id : Nat} (hid : σ id = none) (hn : id < st.n) {xs : List AV} {c : Array Value} {off : Nat} (g : Nat) (hsz : c.size = c0.size) (hlen : l.base + off + xs.length ≤ c.size) (hc : CR σ xs ((c.toList.drop (l.base + off)).take xs.length)) :
    Sim P w0 (σ.set id ⟨l.blk, l.base + off, l.lim, l.esz, true⟩) ((st.kill o.grp).put id ⟨xs, o.elem, true, g⟩) (w.setRow l.blk c) := by
  obtain ⟨l2, hl2, hob⟩ := h.obj i o hi
  rw [hl] at hl2
  cases hl2
  obtain ⟨h1, c1, e1, fz1, h2, h3, h4⟩ := hob
  rw [hb] at h2
  cases h2
  obtain ⟨g1, g2, g3, g4, g5⟩ := h4 hown
  have hp := h.place i l hl
  rcases hp with hp | hp
  · rw [hown] at hp; cases hp.1
  have hsub := Ren.set_sub σ hid ⟨l.blk, l.base + off, l.lim, l.esz, true⟩
  have other : ∀ {j : Nat} {y : AObj} {l' : Loc}, st.get j = some y → σ j = some l' → y.grp ≠ o.grp → l'.blk ≠ l.blk := by
    intro j y l' hy hl' hne hbk
    exact hne (h.alias i j o y l l' hi hy hl hl' hown hbk.symm).1.symm
  have live : ∀ {q : Nat} {x : AObj}, q ≠ id → ((st.kill o.grp).put id ⟨xs, o.elem, true, g⟩).get q = some x → st.get q = some x ∧ x.grp ≠ o.grp := by
    intro q x hne hq
    simp only [St.put, hne, if_false] at hq
    exact kill_inv hq
  refine ⟨below_setRow h.below hp.2.1 c, fun j hj => ?_, fun j o' hj => ?_, fun j l' hj => ?_, fun j k o' o'' l' l'' hj hk hlj hlk ho hbk => ?_, fun g hg => hsub _ _ (h.init g hg)⟩
  · have : j ≠ id := by simp only [St.put, St.kill] at hj; omega
    simp only [Ren.set, this, if_false]
    exact h.dom j hj
  · by_cases e : j = id
    · subst e
      simp only [St.put, if_true, Option.some.injEq] at hj
      subst hj
      exact ⟨_, Ren.set_at _ _ _, rfl, c, e0, fz0, setRow_heap w l.blk _ c _ _ hb, hc.sub hsub, fun _ => ⟨g1, g2, by rw [hsz]; exact g3, g4, hlen⟩⟩
    · obtain ⟨hy, hne⟩ := live e hj
      obtain ⟨l', hl', hob'⟩ := h.obj j o' hy
      exact ⟨l', hsub j l' hl', hob'.step hsub (setRow_other w l.blk l'.blk c (other hy hl' hne))⟩
  · rw [setRow_size]
    by_cases e : j = id
    · subst e
      rw [Ren.set_at] at hj
      cases hj
      exact .inr ⟨rfl, hp.2.1, hp.2.2⟩
    · simp only [Ren.set, e, if_false] at hj
      exact h.place j l' hj
  · by_cases e1 : j = id
    · subst e1
      rw [Ren.set_at] at hlj
      cases hlj
      by_cases e2 : k = j
      · subst e2
        rw [hj] at hk
        cases hk
        rw [Ren.set_at] at hlk
        cases hlk
        exact ⟨rfl, rfl⟩
      · obtain ⟨hy, hne⟩ := live e2 hk
        simp only [Ren.set, e2, if_false] at hlk
        exact absurd hbk.symm (other hy hlk hne)
    · obtain ⟨hy, hne⟩ := live e1 hj
      simp only [Ren.set, e1, if_false] at hlj
      by_cases e2 : k = id
      · subst e2
        rw [Ren.set_at] at hlk
        cases hlk
        exact absurd hbk (other hy hlj hne)
      · obtain ⟨hz, _⟩ := live e2 hk
        simp only [Ren.set, e2, if_false] at hlk
        exact h.alias j k o' o'' l' l'' hy hz hlj hlk ho hbk
/-- A row is marked: it is no longer one's own, the elder names fall away. -/
theorem Sim.mark (h : Sim P w0 σ st w) {i : Nat} {o : AObj} {l : Loc} (hi : st.get i = some o) (hl : σ i = some l) (hown : l.own = true) {c0 : Array Value} {e0 : TypeId} {fz0 : Nat × Nat} (hb : w.heap[l.blk]? = some (.cells c0 e0 fz0))
    {id : Nat} (hid : σ id = none) (hn : id < st.n) {w' : World} (fz : Nat × Nat) (q1 : w'.os = w.os) (q2 : w'.tape = w.tape) (q3 : w'.output = w.output) (q4 : w'.heap.size = w.heap.size) (q5 : w'.heap[l.blk]? = some (.cells c0 e0 fz)) (q6 : ∀ k, k ≠ l.blk → w'.heap[k]? = w.heap[k]?) :
    Sim P w0 (σ.set id ⟨l.blk, l.base, l.lim, l.esz, false⟩) ((st.kill o.grp).put id ⟨o.cells, o.elem, false, id⟩) w' := by
  obtain ⟨l2, hl2, hob⟩ := h.obj i o hi
  rw [hl] at hl2
  cases hl2
  obtain ⟨h1, c1, e1, fz1, h2, h3, h4⟩ := hob
  rw [hb] at h2
  cases h2
  have hp := h.place i l hl
  rcases hp with hp | hp
  · rw [hown] at hp; cases hp.1
  have hsub := Ren.set_sub σ hid ⟨l.blk, l.base, l.lim, l.esz, false⟩
  have other : ∀ {j : Nat} {y : AObj} {l' : Loc}, st.get j = some y → σ j = some l' → y.grp ≠ o.grp → l'.blk ≠ l.blk := by
    intro j y l' hy hl' hne hbk
    exact hne (h.alias i j o y l l' hi hy hl hl' hown hbk.symm).1.symm
  have live : ∀ {q : Nat} {x : AObj}, q ≠ id → ((st.kill o.grp).put id ⟨o.cells, o.elem, false, id⟩).get q = some x → st.get q = some x ∧ x.grp ≠ o.grp := by
    intro q x hne hq
    simp only [St.put, hne, if_false] at hq
    simp only [St.kill] at hq
    obtain ⟨y, hy, h2⟩ := Option.bind_eq_some_iff.1 hq
    split at h2
    · cases h2
    · rename_i hne
      cases h2
      exact ⟨hy, hne⟩
  have hB := h.below
  refine ⟨⟨q1.trans hB.os, q2.trans hB.tape, q3.trans hB.output, by rw [q4]; exact hB.size, fun k hk => (q6 k (by omega)).trans (hB.block k hk)⟩, fun j hj => ?_, fun j o' hj => ?_, fun j l' hj => ?_, fun j k o' o'' l' l'' hj hk hlj hlk ho hbk => ?_, fun g hg => hsub _ _ (h.init g hg)⟩
  · have : j ≠ id := by simp only [St.put, St.kill] at hj; omega
    simp only [Ren.set, this, if_false]
    exact h.dom j hj
  · by_cases e : j = id
    · subst e
      simp only [St.put, if_true, Option.some.injEq] at hj
      subst hj
      exact ⟨_, Ren.set_at _ _ _, rfl, c0, e0, fz, q5, h3.sub hsub, fun hf => by cases hf⟩
    · obtain ⟨hy, hne⟩ := live e hj
      obtain ⟨l', hl', hob'⟩ := h.obj j o' hy
      exact ⟨l', hsub j l' hl', hob'.step hsub (q6 _ (other hy hl' hne))⟩
  · rw [q4]
    by_cases e : j = id
    · subst e
      rw [Ren.set_at] at hj
      cases hj
      exact .inl ⟨rfl, hp.2.2⟩
    · simp only [Ren.set, e, if_false] at hj
      exact h.place j l' hj
  · by_cases e1 : j = id
    · subst e1
      rw [Ren.set_at] at hlj
      cases hlj
      cases ho
    · obtain ⟨hy, hne⟩ := live e1 hj
      simp only [Ren.set, e1, if_false] at hlj
      by_cases e2 : k = id
      · subst e2
        rw [Ren.set_at] at hlk
        cases hlk
        exact absurd hbk (other hy hlj hne)
      · obtain ⟨hz, _⟩ := live e2 hk
        simp only [Ren.set, e2, if_false] at hlk
        exact h.alias j k o' o'' l' l'' hy hz hlj hlk ho hbk
/-- What an object's cells are in memory. -/
theorem Sim.cell (h : Sim P w0 σ st w) {i : Nat} {o : AObj} {l : Loc} (hi : st.get i = some o) (hl : σ i = some l) {j : Nat} {x : AV} (hx : o.cells[j]? = some x) :
    ∃ v, w.cell? ⟨l.blk, l.base + j, none⟩ = some v ∧ VR σ x v := by
  obtain ⟨l2, hl2, h1, c, e, fz, h2, h3, _⟩ := h.obj i o hi
  rw [hl] at hl2
  cases hl2
  obtain ⟨v, hv, hr⟩ := h3.at hx
  refine ⟨v, ?_, hr⟩
  rw [cell_of_row w _ _ c e fz h2]
  rw [List.getElem?_take] at hv
  split at hv
  · rw [List.getElem?_drop] at hv
    simpa using hv
  · cases hv
/-- A stretch of an object's cells. -/
theorem Sim.range (h : Sim P w0 σ st w) {i : Nat} {o : AObj} {l : Loc} (hi : st.get i = some o) (hl : σ i = some l) {off n : Nat} (hn : off + n ≤ o.cells.length) :
    ∃ vs : List Value, vs.length = n ∧ CR σ ((o.cells.drop off).take n) vs ∧ ∀ j u, vs[j]? = some u → w.cell? ⟨l.blk, l.base + off + j, none⟩ = some u := by
  obtain ⟨l2, hl2, h1, c, e, fz, h2, h3, _⟩ := h.obj i o hi
  rw [hl] at hl2
  cases hl2
  have hlen := h3.1
  rw [List.length_take, List.length_drop] at hlen
  refine ⟨(((c.toList.drop l.base).take o.cells.length).drop off).take n, ?_, (h3.drop off).take n, fun j u hu => ?_⟩
  · simp only [List.length_take, List.length_drop]
    omega
  · rw [cell_of_row w _ _ c e fz h2]
    rw [List.getElem?_take] at hu
    split at hu
    · rw [List.getElem?_drop, List.getElem?_take] at hu
      split at hu
      · rw [List.getElem?_drop] at hu
        rw [← Nat.add_assoc] at hu
        simpa using hu
      · cases hu
    · cases hu
theorem add_at (b o j : Nat) : (⟨b, o, none⟩ : Addr).add j = ⟨b, o + j, none⟩ := by unfold Addr.add; split <;> simp_all
end
end Go.Proofs.YthjfncppiffnmaaDoor.Ra
/- The operations, by names. -/
namespace Go.Proofs.YthjfncppiffnmaaDoor.Ra
open Go Go.RowKit
set_option linter.unusedVariables false
set_option linter.unusedSimpArgs false

def aggD : TypeDesc → Bool
  | .struct _ | .array .. => true
  | _ => false
def szOf (P : Program) (t : TypeId) : Option Nat := (P.info? t).map (·.size)
def zcells (P : Program) (t : TypeId) : Option (List AV) := ((P.info? t).bind (·.zero)).map fun z => z.cells.toList.map .pl
def splice (xs : List AV) (off : Nat) (ys : List AV) : List AV := xs.take off ++ ys ++ xs.drop (off + ys.length)
def afill (place : Nat → Option (Nat × Nat)) (cells : List AV) : List (Nat × AV) → Option (List AV)
  | [] => some cells
  | (i, v) :: rest => match place i with
    | none => none
    | some (off, size) => if v.solid ∧ v.cells.length = size ∧ off + v.cells.length ≤ cells.length then afill place (splice cells off v.cells) rest else none
def apart_ (P : Program) (t : TypeId) (cs : List AV) (off : Nat) : Option AV :=
  match P.underlying t, szOf P t with
  | some d, some s => if aggD d then some (.agg ((cs.drop off).take s)) else cs[off]?
  | _, _ => none
def aload (P : Program) (st : St) (t : TypeId) : AV → Option AV
  | .ptr i off => match st.get i with
    | some o => match P.underlying t, szOf P t with
      | some d, some s => if aggD d then (if off + s ≤ o.cells.length then some (.agg ((o.cells.drop off).take s)) else none) else o.cells[off]?
      | _, _ => none
    | none => none
  | .pl (.pointer (some ⟨i, off, none⟩)) => if i < P.globals.size then (match st.get i with
    | some o => match P.underlying t, szOf P t with
      | some d, some s => if aggD d then (if off + s ≤ o.cells.length then some (.agg ((o.cells.drop off).take s)) else none) else o.cells[off]?
      | _, _ => none
    | none => none) else none
  | _ => none
def astore (P : Program) (st : St) (t : TypeId) (v : AV) : AV → Option St
  | .ptr i off => match st.get i with
    | some o => match szOf P t with
      | some s => if o.own ∧ v.cells.length = s ∧ off + s ≤ o.cells.length ∧ v.solid ∧ v.cells.all AV.one then some ((st.touch o.grp off s).put i { o with cells := splice o.cells off v.cells }) else none
      | none => none
    | none => none
  | _ => none
def aintBin (op : BinOp) (k : IntKind) (a b : Int) : Option Value :=
  match op with
  | .add => some (.int k (k.wrap (a + b)))
  | .sub => some (.int k (k.wrap (a - b)))
  | .mul => some (.int k (k.wrap (a * b)))
  | .quo => if b = 0 then none else some (.int k (k.wrap (a.tdiv b)))
  | .rem => if b = 0 then none else some (.int k (a.tmod b))
  | .and => some (.int k (bits .and k a b))
  | .or => some (.int k (bits .or k a b))
  | .xor => some (.int k (bits .xor k a b))
  | .andNot => some (.int k (bits .andNot k a b))
  | .eql => some (.bool (a == b))
  | .neq => some (.bool (a != b))
  | .lss => some (.bool (decide (a < b)))
  | .leq => some (.bool (decide (a ≤ b)))
  | .gtr => some (.bool (decide (a > b)))
  | .geq => some (.bool (decide (a ≥ b)))
  | .shl => if b < 0 then none else some (.int k (k.wrap (a * 2 ^ (min b.toNat k.bits))))
  | .shr => if b < 0 then none else some (.int k (a.fdiv (2 ^ (min b.toNat k.bits))))
def astrBin (op : BinOp) (a b : ByteArray) : Option Value :=
  match op with
  | .add => if ((a.size + b.size : Nat) : Int) > IntKind.i64.max then none else some (.string (a ++ b))
  | .eql => some (.bool (a.toList == b.toList))
  | .neq => some (.bool !(a.toList == b.toList))
  | .lss => some (.bool (Op.bytesLess a.toList b.toList))
  | .leq => some (.bool (Op.bytesLess a.toList b.toList || a.toList == b.toList))
  | .gtr => some (.bool !(Op.bytesLess a.toList b.toList || a.toList == b.toList))
  | .geq => some (.bool !(Op.bytesLess a.toList b.toList))
  | _ => none
def aeqOp (op : BinOp) (b : Bool) : Option Value :=
  match op with
  | .eql => some (.bool b)
  | .neq => some (.bool !b)
  | _ => none
def isBoolD : Option TypeDesc → Bool | some .bool => true | _ => false
def isPtrD : Option TypeDesc → Bool | some (.pointer _) => true | _ => false
def isSliceD : Option TypeDesc → Bool | some (.slice _) => true | _ => false
def isStrD : Option TypeDesc → Bool | some .string => true | _ => false
/-- Are structs of numbers alike, field by field? -/
def aeqF (P : Program) (xs ys : List AV) : List Field → Option Bool
  | [] => some true
  | f :: fs => if f.name ≠ "_" then (match P.underlying f.type, xs[f.offset]?, ys[f.offset]? with
      | some (.int _), some (.pl (.int k a)), some (.pl (.int k' b)) => if k = k' then (if (a == b) = true then aeqF P xs ys fs else some false) else none
      | _, _, _ => none) else aeqF P xs ys fs
def aeqS (P : Program) (t : TypeId) (xs ys : List AV) : Option Bool :=
  match P.underlying t with
  | some (.struct fs) => if P.stoodInHeld t = false ∧ P.eqGuardType P.depth t = false then aeqF P xs ys fs.toList else none
  | _ => none
def abin (P : Program) (op : BinOp) (t : TypeId) : AV → AV → Option Value
  | .pl (.int k a), .pl (.int k' b) => if k = k' ∨ op = .shl ∨ op = .shr then aintBin op k a b else none
  | .pl (.string a), .pl (.string b) => astrBin op a b
  | .pl (.bool a), .pl (.bool b) => if isBoolD (P.underlying t) then aeqOp op (a == b) else none
  | .ptr _ _, .pl (.pointer none) => if isPtrD (P.underlying t) then aeqOp op false else none
  | .pl (.pointer none), .pl (.pointer none) => if isPtrD (P.underlying t) then aeqOp op true else none
  | .sl _ _ _ _, .pl (.slice none _ _) => if isSliceD (P.underlying t) then aeqOp op false else none
  | .pl (.slice q _ _), .pl (.slice none _ _) => if isSliceD (P.underlying t) then aeqOp op q.isNone else none
  | .agg xs, .agg ys => (aeqS P t xs ys).bind (aeqOp op)
  | _, _ => none
def aun (op : UnOp) : AV → Option Value
  | .pl (.int k n) => match op with
    | .neg => some (.int k (k.wrap (0 - n)))
    | .xor => some (.int k (bits .xor k (if k.signed then -1 else k.max) n))
    | _ => none
  | .pl (.bool b) => match op with
    | .not => some (.bool !b)
    | _ => none
  | _ => none
/-- The bounds of a cut. -/
def alow (h : Nat) : Option AV → Option Nat
  | none => some 0
  | some (.pl (.int _ n)) => if 0 ≤ n ∧ n ≤ h then some n.toNat else none
  | _ => none
def ahigh (len : Nat) : Option AV → Option Nat
  | none => some len
  | some (.pl (.int _ n)) => if 0 ≤ n ∧ n ≤ len then some n.toNat else none
  | _ => none
def aslice (P : Program) (t : TypeId) (x : AV) (lo hi : Option AV) : Option AV :=
  match P.underlying t, x with
  | some (.slice e), .sl i off len es => match szOf P e, ahigh len hi with
    | some s, some h => match alow h lo with
      | some l => if es = 0 ∨ es = s then some (.sl i (off + l * s) (h - l) es) else none
      | none => none
    | _, _ => none
  | some (.slice e), .pl (.slice q 0 c) => match szOf P e, ahigh 0 hi with
    | some s, some h => match alow h lo with
      | some l => some (.pl (.slice q 0 c))
      | none => none
    | _, _ => none
  | some .string, .pl (.string s) => match ahigh s.size hi with
    | some h => match alow h lo with
      | some l => some (.pl (.string (s.extract l h)))
      | none => none
    | none => none
  | _, _ => none
def aindexAddr (P : Program) (t : TypeId) (x ix : AV) : Option AV :=
  match P.underlying t, x, ix with
  | some (.slice e), .sl i off len _, .pl (.int _ n) => if 0 ≤ n ∧ n < len then (szOf P e).map fun s => .ptr i (off + n.toNat * s) else none
  | some (.array len e), .ptr i off, .pl (.int _ n) => if 0 ≤ n ∧ n < len then (szOf P e).map fun s => .ptr i (off + n.toNat * s) else none
  | some (.array len e), .pl (.pointer (some ⟨i, off, none⟩)), .pl (.int _ n) => if 0 ≤ n ∧ n < len then (szOf P e).map fun s => .pl (.pointer (some ⟨i, off + n.toNat * s, none⟩)) else none
  | _, _, _ => none
def afieldAddr (P : Program) (t : TypeId) (x : AV) (f : Nat) : Option AV :=
  match P.underlying t, x with
  | some (.struct fs), .ptr i off => match fs[f]? with
    | some fd => match szOf P fd.type with
      | some s => if s = 0 then none else some (.ptr i (off + fd.offset))
      | none => none
    | none => none
  | _, _ => none
/-- The bytes of a slice, if they are bytes. -/
def anum : AV → Option Int
  | .pl (.int .u8 n) => some n
  | _ => none
/-- What is put behind: the cells, and how many elements. -/
def asrc (P : Program) (st : St) (size : Nat) : AV → Option (List AV × Nat)
  | .sl j off m _ => if m = 0 then some ([], 0) else match st.get j with
    | some o => if off + m * size ≤ o.cells.length then some ((o.cells.drop off).take (m * size), m) else none
    | none => none
  | .pl (.slice _ 0 _) => some ([], 0)
  | _ => none
def aappend (P : Program) (st : St) (id : Nat) (t : TypeId) (s x : AV) : Option (AV × St) :=
  match P.underlying t with
  | some (.slice e) => match P.info? e with
    | some i => match asrc P st i.size x with
      | some (news, m) => match s with
        | .sl j off len es => match st.get j with
          | some o => if o.own ∧ o.elem = e ∧ 0 < i.size ∧ (i.zero.map (·.cells.size)) = some i.size ∧ off + len * i.size = o.cells.length ∧ (len + m) * i.bytes ≤ 140737488355328 ∧ len + m ≤ maxLen ∧ news.all AV.one then some (.sl id 0 (len + m) i.size, if off = 0 then (st.touch o.grp (len * i.size) (m * i.size)).put id ⟨o.cells ++ news, e, true, o.grp⟩ else (st.kill o.grp).put id ⟨o.cells.drop off ++ news, e, true, id⟩) else none
          | none => none
        | .pl (.slice none 0 0) => if m = 0 then some (.pl (.slice none 0 0), st) else
            if 0 < i.size ∧ (i.zero.map (·.cells.size)) = some i.size ∧ m * i.bytes ≤ 140737488355328 ∧ m ≤ maxLen ∧ news.all AV.one then some (.sl id 0 m i.size, st.put id ⟨news, e, true, id⟩) else none
        | _ => none
      | none => none
    | none => none
  | _ => none
def alen (P : Program) (ts : Array TypeId) : List AV → Option AV
  | [.sl _ _ n _] => if isSliceD ((ts[0]?).bind P.underlying) then some (.pl (.int .i64 n)) else none
  | [.pl (.slice _ n _)] => if isSliceD ((ts[0]?).bind P.underlying) then some (.pl (.int .i64 n)) else none
  | [.pl (.string s)] => if isStrD ((ts[0]?).bind P.underlying) then some (.pl (.int .i64 s.size)) else none
  | _ => none
def amin : List AV → Option AV
  | [.pl (.int k x), .pl (.int _ y)] => some (.pl (.int k (if y < x then y else x)))
  | _ => none
def amax : List AV → Option AV
  | [.pl (.int k x), .pl (.int _ y)] => some (.pl (.int k (if y > x then y else x)))
  | _ => none
def abuiltin (P : Program) (st : St) (id : Nat) (b : Builtin) (ts : Array TypeId) (args : List AV) : Option (AV × St) :=
  match b with
  | .len => (alen P ts args).map fun v => (v, st)
  | .min => (amin args).map fun v => (v, st)
  | .max => (amax args).map fun v => (v, st)
  | .append => match args with
    | [s, x] => if ts = #[ts.getD 0 0, ts.getD 0 0] then aappend P st id (ts.getD 0 0) s x else none
    | _ => none
  | _ => none
/-- A slice of bytes made a slice of bytes: its row is marked. -/
def amark (P : Program) (st : St) (id : Nat) (e : TypeId) : AV → Option (AV × St)
  | .sl i off len _ => match P.underlying e, st.get i with
    | some (.int .u8), some o => if o.own then some (.sl id off len 0, (st.kill o.grp).put id ⟨o.cells, o.elem, false, id⟩) else none
    | _, _ => none
  | _ => none
def aconvert (P : Program) (st : St) (id : Nat) (src dst : TypeId) (x : AV) : Option (AV × St) :=
  match P.underlying src, P.underlying dst, x with
  | some _, some (.int k), .pl (.int _ n) => some (.pl (.int k (k.wrap n)), st)
  | some .string, some (.slice e), .pl (.string s) => match P.underlying e, szOf P e with
    | some (.int .u8), some 1 => if s.size ≤ maxLen then some (.sl id 0 s.size 0, st.put id ⟨s.data.toList.map fun b => .pl (.int .u8 b.toNat), e, false, id⟩) else none
    | _, _ => none
  | some (.slice e), some .string, .sl i off len _ => match P.underlying e, (if len = 0 then some ⟨[], 0, false, 0⟩ else st.get i) with
    | some (.int .u8), some o => if len = 0 ∨ off + len ≤ o.cells.length then (((o.cells.drop off).take len).mapM anum).map fun ns => (.pl (.string (ns.foldl (fun r n => r.push (UInt8.ofNat n.toNat)) ByteArray.empty)), st) else none
    | _, _ => none
  | some (.slice e), some .string, .pl (.slice _ 0 _) => match P.underlying e with
    | some (.int .u8) => some (.pl (.string .empty), st)
    | _ => none
  | some (.slice _), some (.slice e), x => if src = dst then amark P st id e x else none
  | _, _, _ => none
def abuild (P : Program) (t : TypeId) (ps : List (Nat × AV)) : Option AV :=
  match P.underlying t, zcells P t with
  | some (.struct fs), some z => if fs.all (fun f : Field => (szOf P f.type).isSome) then (afill (fun i : Nat => (fs[i]?).bind fun f : Field => (szOf P f.type).map fun s => (f.offset, s)) z ps).map .agg else none
  | _, _ => none
def abuildSlice (P : Program) (t : TypeId) (id len : Nat) (ps : List (Nat × AV)) : Option (AV × AObj) :=
  match P.underlying t with
  | some (.slice e) => match szOf P e, (P.info? e).bind (·.zero) with
    | some s, some z => if 0 < s ∧ len * s ≤ 2 ^ 24 ∧ len ≤ maxLen ∧ z.cells.size = s then (afill (fun i => some (i * s, s)) (((Array.range (len * s)).map (z.cells[· % z.cells.size]!)).toList.map .pl) ps).map fun cs => (.sl id 0 len s, ⟨cs, e, true, id⟩) else none
    | _, _ => none
  | _ => none
def aindex (P : Program) (t : TypeId) (x ix : AV) : Option AV :=
  match P.underlying t, x, ix with
  | some .string, .pl (.string s), .pl (.int _ n) => if 0 ≤ n then (s[n.toNat]?).map fun b => .pl (.int .u8 b.toNat) else none
  | _, _, _ => none
def amakeSlice (P : Program) (t : TypeId) (id : Nat) (l c : AV) : Option (AV × AObj) :=
  match P.underlying t, l, c with
  | some (.slice e), .pl (.int _ n), .pl (.int _ m) => match P.info? e with
    | some i => match i.zero with
      | some z => if 0 < i.size ∧ n = m ∧ 0 ≤ n ∧ (i.bytes : Int) * n ≤ 281474976710656 ∧ n ≤ 9223372036854775807 then some (.sl id 0 n.toNat i.size, ⟨(madeCells z.cells (n.toNat * i.size)).toList.map .pl, e, true, id⟩) else none
      | none => none
    | none => none
  | _, _, _ => none
def aop (P : Program) (call : ACall) (id : Nat) (o : Oper) (fr : AFr) (st : St) : Option (AV × St) :=
  match o.op with
  | .move x | .assign x => some (aeval fr x, st)
  | .pick c a b => match aeval fr c with
    | .pl (.bool t) => some (if t then aeval fr a else aeval fr b, st)
    | _ => none
  | .alloc e => match zcells P e, szOf P e with
    | some cs, some s => some (.ptr id 0, st.put id ⟨cs, e, true, id⟩)
    | _, _ => none
  | .box e x => match szOf P e with
    | some s => if (aeval fr x).solid then some (.ptr id 0, st.put id ⟨(aeval fr x).cells, e, true, id⟩) else none
    | none => none
  | .build t parts => (abuild P t (parts.toList.map fun p => (p.1, aeval fr p.2))).map fun v => (v, st)
  | .buildSlice t len parts => (abuildSlice P t id len (parts.toList.map fun p => (p.1, aeval fr p.2))).map fun r => (r.1, st.put id r.2)
  | .makeSlice t l c => (amakeSlice P t id (aeval fr l) (aeval fr c)).map fun r => (r.1, st.put id r.2)
  | .load t x => (aload P st t (aeval fr x)).map fun v => (v, st)
  | .store t x v => (astore P st t (aeval fr v) (aeval fr x)).map fun st' => (.pl undef, st')
  | .nilCheck x => match aeval fr x with
    | .ptr i off => some (.ptr i off, st)
    | .fn f cs => some (.fn f cs, st)
    | _ => none
  | .binOp op t x y _ => (abin P op t (aeval fr x) (aeval fr y)).map fun v => (.pl v, st)
  | .unOp op _ x => (aun op (aeval fr x)).map fun v => (.pl v, st)
  | .convert src dst x => aconvert P st id src dst (aeval fr x)
  | .slice t x lo hi mx => if mx.isNone then (aslice P t (aeval fr x) (lo.map (aeval fr)) (hi.map (aeval fr))).map fun v => (v, st) else none
  | .fieldAddr t x f => (afieldAddr P t (aeval fr x) f).map fun v => (v, st)
  | .field t x f => match P.underlying t, aeval fr x with
    | some (.struct fs), .agg xs => match fs[f]? with
      | some fd => (apart_ P fd.type xs fd.offset).map fun v => (v, st)
      | none => none
    | _, _ => none
  | .indexAddr t x ix => (aindexAddr P t (aeval fr x) (aeval fr ix)).map fun v => (v, st)
  | .index t x ix => (aindex P t (aeval fr x) (aeval fr ix)).map fun v => (v, st)
  | .extract x ix => match aeval fr x with
    | .tup xs => (xs[ix]?).map fun v => (v, st)
    | _ => none
  | .makeFunc (.func f) first captured => if first.isEmpty then some (.fn f (captured.toList.map (aeval fr)), st) else none
  | .call c => match c.callee with
    | .builtin b => abuiltin P st id b c.argTypes (c.args.toList.map (aeval fr))
    | .value f => match aeval fr f with
      | .fn g caps => call g (c.args.toList.map (aeval fr) ++ caps) st
      | _ => none
    | _ => none
  | _ => none
end Go.Proofs.YthjfncppiffnmaaDoor.Ra
/- What the operations come to in the machine: reading, writing, places, cuts, numbers. -/
namespace Go.Proofs.YthjfncppiffnmaaDoor.Ra
open Go Go.RowKit
set_option linter.unusedVariables false
set_option linter.unusedSimpArgs false
section
variable {P : Program} {w0 : World} {σ : Ren} {st : St} {w : World}
theorem sz_run {t : TypeId} {s : Nat} (h : szOf P t = some s) (w : World) : (sizeOf t).run P w = .ok s w := by
  unfold szOf at h
  obtain ⟨i, hi, rfl⟩ := Option.map_eq_some_iff.1 h
  simp [sizeOf, typeInfo, hi]
theorem agg_run {t : TypeId} {d : TypeDesc} (h : P.underlying t = some d) (w : World) : (isAgg t).run P w = .ok (aggD d) w := by
  simp only [isAgg, Sem.run_bind, run_underlying h, Result.andThen_ok]
  cases d <;> rfl
theorem loadVar_run {t : TypeId} {d : TypeDesc} {s b o : Nat} {vs : List Value} (ht : P.underlying t = some d) (hs : szOf P t = some s) (hd : aggD d = true) (hl : vs.length = s) (hc : ∀ j u, vs[j]? = some u → w.cell? ⟨b, o + j, none⟩ = some u) :
    (loadVar t ⟨b, o, none⟩).run P w = .ok (.agg vs.toArray) w := by
  have := run_loadCells_list (P := P) w ⟨b, o, none⟩ vs (fun j v hv => by rw [add_at]; exact hc j v hv)
  rw [hl] at this
  simp only [loadVar, Sem.run_bind, agg_run ht, Result.andThen_ok, hd, if_true, sz_run hs, this, Sem.run_pure]
theorem loadVar_one {t : TypeId} {d : TypeDesc} {b o : Nat} {u : Value} (ht : P.underlying t = some d) (hd : aggD d = false) (hc : w.cell? ⟨b, o, none⟩ = some u) :
    (loadVar t ⟨b, o, none⟩).run P w = .ok u w := by
  simp [loadVar, agg_run ht, hd, run_load, hc]
theorem sim_loadP (h : Sim P w0 σ st w) {t : TypeId} {i off : Nat} {y : AV} {v : Value} (hv : VR σ (.ptr i off) v) (hl : aload P st t (.ptr i off) = some y) : ∃ u, (Instr.loadAt t v).run P w = .ok u w ∧ VR σ y u := by
  unfold aload at hl
  simp only at hl
  split at hl
  case h_2 => cases hl
  rename_i o ho
  split at hl
  case h_2 => cases hl
  rename_i d s hd hs
  cases hv with
  | ptr hi =>
  rename_i l
  split at hl
  · rename_i hag
    split at hl
    case isFalse => cases hl
    rename_i hlen
    cases hl
    obtain ⟨vs, hvl, hcr, hcell⟩ := h.range ho hi hlen
    refine ⟨.agg vs.toArray, ?_, .agg (by simpa using hcr.1) (fun j x v hx hv => hcr.2 j x v hx (by simpa using hv))⟩
    simp only [Instr.loadAt, Instr.sureAddr, Sem.run_bind, Sem.run_pure, Result.andThen_ok]
    exact loadVar_run hd hs hag hvl hcell
  · rename_i hag
    obtain ⟨u, hu, hr⟩ := h.cell ho hi hl
    refine ⟨u, ?_, hr⟩
    simp only [Instr.loadAt, Instr.sureAddr, Sem.run_bind, Sem.run_pure, Result.andThen_ok]
    exact loadVar_one hd (by simpa using hag) hu
theorem VR.glob (h : Sim P w0 σ st w) {i off : Nat} {v : Value} (hi : i < P.globals.size) (hv : VR σ (.pl (.pointer (some ⟨i, off, none⟩))) v) : VR σ (.ptr i off) v := by
  cases hv
  have := VR.ptr (σ := σ) (off := off) (h.init i hi)
  simpa using this
theorem sim_load (h : Sim P w0 σ st w) {t : TypeId} {x y : AV} {v : Value} (hv : VR σ x v) (hl : aload P st t x = some y) : ∃ u, (Instr.loadAt t v).run P w = .ok u w ∧ VR σ y u := by
  unfold aload at hl
  split at hl
  · exact sim_loadP h hv (by unfold aload; exact hl)
  · rename_i i off
    split at hl
    case isFalse => cases hl
    rename_i hi
    exact sim_loadP h (VR.glob h hi hv) (by unfold aload; exact hl)
  · cases hl
theorem splice_len (xs ys : List AV) (off : Nat) (h : off + ys.length ≤ xs.length) : (splice xs off ys).length = xs.length := by
  simp only [splice, List.length_append, List.length_take, List.length_drop]
  omega
theorem sim_store (h : Sim P w0 σ st w) {t : TypeId} {x y : AV} {v u : Value} {st' : St} (hv : VR σ x v) (hu : VR σ y u) (hs : astore P st t y x = some st') :
    ∃ w', (Instr.storeAt t v u).run P w = .ok () w' ∧ Sim P w0 σ st' w' := by
  unfold astore at hs
  split at hs
  case h_2 => cases hs
  rename_i i off
  split at hs
  case h_2 => cases hs
  rename_i o ho
  split at hs
  case h_2 => cases hs
  rename_i s hsz
  split at hs
  case isFalse => cases hs
  rename_i hcond
  obtain ⟨hown, hlen, hfit, hsolid, hone⟩ := hcond
  cases hs
  cases hv with
  | ptr hi =>
  rename_i l
  obtain ⟨l2, hl2, h1, c, e, fz, h2, h3, h4⟩ := h.obj i o ho
  rw [hi] at hl2
  cases hl2
  have hlo : l.own = true := by rw [← h1]; exact hown
  obtain ⟨rfl, g2, g3, g4, g5⟩ := h4 hlo
  have hcr := hu.cells hsolid
  have hn : u.cells.size = s := by have := hcr.1; simp only [Array.length_toList] at this; omega
  have hfit2 : l.base + off + u.cells.toList.length ≤ c.size := by rw [Array.length_toList, hn]; omega
  have hst := run_storeCells_at P l.blk (l.base + off) e u.cells.toList 0 c w h2 (by simpa using hfit2) (hcr.ones hone)
  refine ⟨_, ?_, h.write ho hi hlo h2 (c := (c.toList.take (l.base + off) ++ u.cells.toList ++ c.toList.drop (l.base + off + u.cells.toList.length)).toArray) (off := off) (n := s) ?_ (splice_len _ _ _ (by omega)) ?_ ?_⟩
  · simp only [Instr.storeAt, Instr.sureAddr, storeVar, Sem.run_bind, Sem.run_pure, Result.andThen_ok, sz_run hsz, hn, ne_eq, not_true_eq_false, if_false]
    simpa using hst
  · simp only [List.size_toArray, List.length_append, List.length_take, List.length_drop, Array.length_toList]
    simp only [Array.length_toList] at hfit2
    omega
  · intro q hq
    have hus : u.cells.toList.length = s := by rw [Array.length_toList]; exact hn
    have hlt : (c.toList.take (l.base + off)).length = l.base + off := by rw [List.length_take, Array.length_toList]; omega
    simp only [List.getElem?_toArray]
    rcases hq with hq | hq
    · rw [List.append_assoc, List.getElem?_append_left (by omega), List.getElem?_take, if_pos hq, Array.getElem?_toList]
    · rw [List.getElem?_append_right (by rw [List.length_append]; omega), List.getElem?_drop, List.length_append, hlt, hus, Array.getElem?_toList]
      congr 1
      omega
  · rw [splice_len _ _ _ (by omega)]
    have e1 : (((c.toList.take (l.base + off) ++ u.cells.toList ++ c.toList.drop (l.base + off + u.cells.toList.length)).toArray.toList.drop l.base).take o.cells.length) =
        (((c.toList.drop l.base).take o.cells.length).take off) ++ u.cells.toList ++ (((c.toList.drop l.base).take o.cells.length).drop (off + u.cells.toList.length)) := by
      have hlc : u.cells.toList.length = s := by rw [Array.length_toList]; exact hn
      apply List.ext_getElem?
      intro j
      simp only [List.getElem?_take, List.getElem?_drop, List.getElem?_append, List.length_append, List.length_take, List.length_drop, Array.length_toList, hn]
      by_cases a1 : j < off
      · rw [if_pos (by omega), if_pos (by omega), if_pos (by omega), if_pos (by omega), if_pos (by omega), if_pos (by omega), if_pos (by omega), if_pos (by omega)]
      · by_cases a2 : j < off + s
        · rw [if_pos (by omega), if_pos (by omega), if_neg (by omega), if_pos (by omega), if_neg (by omega)]
          congr 1
          omega
        · by_cases a3 : j < o.cells.length
          · rw [if_pos (by omega), if_neg (by omega), if_neg (by omega), if_pos (by omega)]
            congr 1
            omega
          · rw [if_neg (by omega), if_neg (by omega), if_neg (by omega)]
    rw [e1]
    have hl : y.cells.length = u.cells.toList.length := hcr.1
    unfold splice
    rw [hl]
    exact ((h3.take off).append hcr).append (h3.drop _)
theorem sim_indexAddr {t : TypeId} {x ix y : AV} {v u : Value} (hv : VR σ x v) (hu : VR σ ix u) (hi : aindexAddr P t x ix = some y) : ∃ r, (Instr.indexAt t v u).run P w = .ok r w ∧ VR σ y r := by
  unfold aindexAddr at hi
  split at hi
  · rename_i e i off len es k n he
    split at hi
    case isFalse => cases hi
    rename_i hb
    obtain ⟨s, hs, rfl⟩ := Option.map_eq_some_iff.1 hi
    cases hu
    cases hv with
    | sl h hc hm ho hl =>
    have ho2 := ho.resolve_left (by omega)
    subst ho2
    refine ⟨_, ?_, .ptr h⟩
    simp only [Instr.indexAt, Sem.run_bind, asIntOf, Sem.run_pure, Result.andThen_ok, run_underlying he, hb, and_self, if_true, sz_run hs, add_at, Nat.add_assoc]
  · rename_i len e i off k n he
    split at hi
    case isFalse => cases hi
    rename_i hb
    obtain ⟨s, hs, rfl⟩ := Option.map_eq_some_iff.1 hi
    cases hu
    cases hv with
    | ptr h =>
    refine ⟨_, ?_, .ptr h⟩
    simp only [Instr.indexAt, Instr.sureAddr, Sem.run_bind, asIntOf, Sem.run_pure, Result.andThen_ok, run_underlying he, hb, and_self, if_true, sz_run hs, add_at, Nat.add_assoc]
  · rename_i len e i off k n he
    split at hi
    case isFalse => cases hi
    rename_i hb
    obtain ⟨s, hs, rfl⟩ := Option.map_eq_some_iff.1 hi
    cases hu
    cases hv
    refine ⟨_, ?_, .pl _⟩
    simp only [Instr.indexAt, Instr.sureAddr, Sem.run_bind, asIntOf, Sem.run_pure, Result.andThen_ok, run_underlying he, hb, and_self, if_true, sz_run hs, add_at, Nat.add_assoc]
  · cases hi
theorem sim_fieldAddr {t : TypeId} {x y : AV} {v : Value} {f : Nat} (hv : VR σ x v) (hi : afieldAddr P t x f = some y) : ∃ r, (Instr.fieldAt t v f).run P w = .ok r w ∧ VR σ y r := by
  unfold afieldAddr at hi
  split at hi
  case h_2 => cases hi
  rename_i fs i off hu
  split at hi
  case h_2 => cases hi
  rename_i fd hf
  split at hi
  case h_2 => cases hi
  rename_i s hs
  split at hi
  case isTrue => cases hi
  rename_i hne
  cases hi
  cases hv with
  | ptr h =>
  refine ⟨_, ?_, .ptr h⟩
  simp only [Instr.fieldAt, fieldPlace, Instr.sureAddr, Sem.run_bind, run_underlying hu, Result.andThen_ok, hf, Sem.run_pure, sz_run hs, hne, if_false, add_at, Nat.add_assoc]
theorem sim_alow {h : Nat} {lo : Option AV} {lv : Option Value} {l : Nat} (hr : ∀ x, lo = some x → ∃ v, lv = some v ∧ VR σ x v) (hn : lo = none → lv = none) (ha : alow h lo = some l) :
    l ≤ h ∧ ∀ (c : BoundsCode), (match lv with | some v => Instr.sliceBound v h c | none => pure 0).run P w = .ok l w := by
  unfold alow at ha
  split at ha
  · cases ha
    rw [hn rfl]
    exact ⟨Nat.zero_le _, fun _ => rfl⟩
  · rename_i k n
    split at ha
    case isFalse => cases ha
    rename_i hb
    cases ha
    obtain ⟨v, rfl, hv⟩ := hr _ rfl
    cases hv
    refine ⟨by omega, fun c => ?_⟩
    simp only [Instr.sliceBound, Sem.run_bind, asIntOf, Sem.run_pure, Result.andThen_ok, hb, and_self, if_true]
  · cases ha
theorem sim_ahigh {len cap : Nat} {hi : Option AV} {hv : Option Value} {m : Nat} (hcap : len ≤ cap) (hr : ∀ x, hi = some x → ∃ v, hv = some v ∧ VR σ x v) (hn : hi = none → hv = none) (ha : ahigh len hi = some m) :
    m ≤ len ∧ ∀ (c : BoundsCode), (match hv with | some v => Instr.sliceBound v cap c | none => pure len).run P w = .ok m w := by
  unfold ahigh at ha
  split at ha
  · cases ha
    rw [hn rfl]
    exact ⟨Nat.le_refl _, fun _ => rfl⟩
  · rename_i k n
    split at ha
    case isFalse => cases ha
    rename_i hb
    cases ha
    obtain ⟨v, rfl, hv⟩ := hr _ rfl
    cases hv
    refine ⟨by omega, fun c => ?_⟩
    have hb2 : 0 ≤ n ∧ n ≤ (cap : Int) := ⟨hb.1, by omega⟩
    simp only [Instr.sliceBound, Sem.run_bind, asIntOf, Sem.run_pure, Result.andThen_ok, hb2, and_self, if_true]
  · cases ha
theorem bounds_run (isSlice : Bool) {len cap l h : Nat} {lo hi : Option Value}
    (hh : ∀ c : BoundsCode, (match hi with | some v => Instr.sliceBound v cap c | none => pure len).run P w = .ok h w) (hl : ∀ c : BoundsCode, (match lo with | some v => Instr.sliceBound v h c | none => pure 0).run P w = .ok l w) :
    (Instr.sliceBounds isSlice len cap lo hi none).run P w = .ok (l, h, cap) w := by
  cases hi with
  | none =>
    have e := hh .index
    simp only [Sem.run_pure] at e
    cases e
    cases lo with
    | none =>
      have e := hl .index
      simp only [Sem.run_pure] at e
      cases e
      simp [Instr.sliceBounds]
    | some v =>
      have e := hl .sliceB
      simp only at e
      simp [Instr.sliceBounds, e]
  | some u =>
    have e := hh (if isSlice then .sliceAcap else .sliceAlen)
    simp only at e
    cases lo with
    | none =>
      have e2 := hl .index
      simp only [Sem.run_pure] at e2
      cases e2
      simp [Instr.sliceBounds, e]
    | some v =>
      have e2 := hl .sliceB
      simp only at e2
      simp [Instr.sliceBounds, e, e2]
theorem sim_slice {t : TypeId} {x y : AV} {v : Value} {lo hi : Option AV} {lv hv : Option Value} (hx : VR σ x v) (hlo : ∀ x, lo = some x → ∃ v, lv = some v ∧ VR σ x v) (hlo0 : lo = none → lv = none) (hhi : ∀ x, hi = some x → ∃ v, hv = some v ∧ VR σ x v) (hhi0 : hi = none → hv = none)
    (ha : aslice P t x lo hi = some y) : ∃ r, (Instr.sliceAt t v lv hv none).run P w = .ok r w ∧ VR σ y r := by
  unfold aslice at ha
  split at ha
  · rename_i e i off len es he
    split at ha
    case h_2 => cases ha
    rename_i s h hs hh
    split at ha
    case h_2 => cases ha
    rename_i l hl
    split at ha
    case isFalse => cases ha
    rename_i hes
    cases ha
    cases hx with
    | sl hi hc hm ho hlim =>
    rename_i cap o loc
    obtain ⟨h1, h2⟩ := sim_ahigh (P := P) (w := w) hc hhi hhi0 hh
    obtain ⟨l1, l2⟩ := sim_alow (P := P) (w := w) hlo hlo0 hl
    have hb := bounds_run (P := P) (w := w) true h2 l2
    refine ⟨_, ?_, .sl (cap := cap - l) (o := if cap = l then o else o + l * s) hi (by omega) (by omega) ?_ ?_⟩
    · simp only [Instr.sliceAt, Instr.slice, Sem.run_bind, run_underlying he, Result.andThen_ok, hb, sz_run hs, Sem.run_pure]
      split
      · rfl
      · simp [add_at]
    · by_cases e1 : cap = l
      · exact .inl (by omega)
      · rw [if_neg e1]
        refine .inr ?_
        rcases ho with ho | ho
        · omega
        · omega
    · intro hown
      obtain ⟨h3, h4, h5⟩ := hlim hown
      have h6 : es = s := by omega
      subst h6
      have h7 : l * es + (cap - l) * es = cap * es := by rw [← Nat.add_mul]; congr 1; omega
      exact ⟨h3, h4, by omega⟩
  · rename_i e q c0 he
    split at ha
    case h_2 => cases ha
    rename_i s h hs hh
    split at ha
    case h_2 => cases ha
    rename_i l hl
    cases ha
    cases hx
    obtain ⟨h1, h2⟩ := sim_ahigh (P := P) (w := w) (Nat.zero_le c0) hhi hhi0 hh
    obtain ⟨l1, l2⟩ := sim_alow (P := P) (w := w) hlo hlo0 hl
    have hb := bounds_run (P := P) (w := w) true h2 l2
    obtain rfl : h = 0 := by omega
    obtain rfl : l = 0 := by omega
    refine ⟨_, ?_, .pl _⟩
    have hq : q.map (·.add (0 * s)) = q := by cases q <;> simp [Addr.add]
    simp only [Instr.sliceAt, Instr.slice, Sem.run_bind, run_underlying he, Result.andThen_ok, hb, sz_run hs, Sem.run_pure, Nat.sub_zero, hq, ite_self]
  · rename_i s he
    split at ha
    case h_2 => cases ha
    rename_i h hh
    split at ha
    case h_2 => cases ha
    rename_i l hl
    cases ha
    cases hx
    obtain ⟨h1, h2⟩ := sim_ahigh (P := P) (w := w) (Nat.le_refl s.size) hhi hhi0 hh
    obtain ⟨l1, l2⟩ := sim_alow (P := P) (w := w) hlo hlo0 hl
    have hb := bounds_run (P := P) (w := w) false h2 l2
    refine ⟨_, ?_, .pl _⟩
    simp [Instr.sliceAt, Instr.slice, run_underlying he, hb]
  · cases ha
/-- Numbers, letters, truth. -/
theorem bin_run {op : BinOp} {k k' : IntKind} {a b : Int} {v : Value} (hk : k = k' ∨ op = .shl ∨ op = .shr) (h : aintBin op k a b = some v) (t : TypeId) : (binOp op t (.int k a) (.int k' b)).run P w = .ok v w := by
  cases op <;> simp only [aintBin] at h <;> simp only [reduceCtorEq, or_false, false_or, or_true, true_or] at hk <;>
    (try subst hk) <;> (try (split at h <;> first | (cases h; done) | skip)) <;> (try (injection h with h; subst h)) <;>
    simp_all [binOp, Op.intArith, Op.intDiv, Op.intBits, Op.intCmp, Op.shift, bits] <;> (intro hb_; omega)
theorem str_run {op : BinOp} {a b : ByteArray} {v : Value} (h : astrBin op a b = some v) (t : TypeId) : (binOp op t (.string a) (.string b)).run P w = .ok v w := by
  cases op <;> simp only [astrBin] at h <;> (try (cases h; done)) <;> (try (split at h <;> first | (cases h; done) | skip)) <;> (try (injection h with h; subst h)) <;>
    simp_all [binOp, Op.stringOp]
theorem eq_run {op : BinOp} {t : TypeId} {x y v : Value} {b : Bool} (hb : ∀ w, (Op.equal t x y).run P w = .ok b w) (hx : ∀ a b : Value, (op = .eql ∨ op = .neq) → binOp op t x y = (match op with | .eql => do pure (.bool (← Op.equal t x y)) | _ => do pure (.bool (!(← Op.equal t x y))))) (h : aeqOp op b = some v) : (binOp op t x y).run P w = .ok v w := by
  cases op <;> simp only [aeqOp] at h <;> (try (cases h; done)) <;> (injection h with h; subst h)
  · rw [hx x y (.inl rfl)]; simp [hb]
  · rw [hx x y (.inr rfl)]; simp [hb]
def quietPair : Value → Value → Bool
  | .nilIface, .nilIface => false
  | .agg _, .agg _ => false
  | _, _ => true
theorem eqIn_ptr_nil (d : Nat) {t e : TypeId} (he : P.underlying t = some (.pointer e)) (p : Option Addr) (w : World) : (Op.equalIn (d + 1) t (.pointer p) (.pointer none)).run P w = .ok p.isNone w := by
  simp only [Op.equalIn, Sem.run_bind, run_underlying he, Result.andThen_ok]
  cases p <;> rfl
theorem eqIn_slice_nil (d : Nat) {t e : TypeId} (he : P.underlying t = some (.slice e)) (p : Option Addr) (n c n' c' : Nat) (w : World) : (Op.equalIn (d + 1) t (.slice p n c) (.slice none n' c')).run P w = .ok p.isNone w := by
  simp only [Op.equalIn, Sem.run_bind, run_underlying he, Result.andThen_ok]
  cases p <;> rfl
theorem eq_ptr_nil {t e : TypeId} (he : P.underlying t = some (.pointer e)) (p : Option Addr) (w : World) : (Op.equal t (.pointer p) (.pointer none)).run P w = .ok p.isNone w := by
  exact eqIn_ptr_nil 9999 he p w
theorem eq_slice_nil {t e : TypeId} (he : P.underlying t = some (.slice e)) (p : Option Addr) (n c n' c' : Nat) (w : World) : (Op.equal t (.slice p n c) (.slice none n' c')).run P w = .ok p.isNone w := by
  exact eqIn_slice_nil 9999 he p n c n' c' w
theorem guard_run {op : BinOp} {t : TypeId} {x y : Operand} {a b : Value} (h : quietPair a b = true) : (eqGuard op t x y a b).run P w = .ok () w := by
  unfold eqGuard
  cases op <;> simp [Sem.run_pure] <;> (split <;> first | (simp [quietPair] at h; done) | rfl)
theorem eqF_run {xs ys : List AV} {vs us : Array Value} (hx : VR σ (.agg xs) (.agg vs)) (hy : VR σ (.agg ys) (.agg us)) (d : Nat) (w : World) : ∀ (fs : List Field) (b : Bool), aeqF P xs ys fs = some b → (Op.eqFields (d + 1) vs us fs).run P w = .ok b w := by
  cases hx with
  | agg hn hv =>
  cases hy with
  | agg hm hu =>
  intro fs
  have at_ : ∀ {zs : List AV} {ws : Array Value} (hn : zs.length = ws.size) (hz : ∀ (i : Nat) (x : AV) (v : Value), zs[i]? = some x → ws[i]? = some v → VR σ x v) {i : Nat} {v : Value}, zs[i]? = some (.pl v) → ws[i]? = some v := by
    intro zs ws hn hz i v hi
    obtain ⟨hlt, _⟩ := List.getElem?_eq_some_iff.1 hi
    have hlt2 : i < ws.size := by omega
    have hr := hz i _ _ hi (Array.getElem?_eq_getElem hlt2)
    cases hr
    exact Array.getElem?_eq_getElem hlt2
  induction fs with
  | nil => intro b h; simp only [aeqF, Option.some.injEq] at h; subst h; rfl
  | cons f fs ih =>
    intro b h
    simp only [aeqF] at h
    simp only [Op.eqFields]
    split at h
    · rename_i hf
      rw [if_pos hf]
      split at h
      case h_2 => cases h
      rename_i k k1 a k2 c hk ha hc
      split at h
      case isFalse => cases h
      rename_i hkk
      subst hkk
      have h1 := at_ hn hv ha
      have h2 := at_ hm hu hc
      have p1 : (part f.type vs f.offset).run P w = .ok (.int k1 a) w := by simp [part, agg_run hk, aggD, h1]
      have p2 : (part f.type us f.offset).run P w = .ok (.int k1 c) w := by simp [part, agg_run hk, aggD, h2]
      have p3 : (Op.equalIn (d + 1) f.type (.int k1 a) (.int k1 c)).run P w = .ok (a == c) w := by
        simp [Op.equalIn, run_underlying hk]
      rw [Sem.run_bind, p1, Result.andThen_ok, Sem.run_bind, p2, Result.andThen_ok, Sem.run_bind, p3, Result.andThen_ok]
      by_cases hac : (a == c) = true
      · rw [if_pos hac] at h
        rw [hac]
        simp only [Bool.not_true, Bool.false_eq_true, if_false]
        exact ih b h
      · rw [if_neg hac] at h
        simp only [Option.some.injEq] at h
        subst h
        have hac' : (a == c) = false := by simpa using hac
        rw [hac']
        rfl
    · rename_i hf
      rw [if_neg hf]
      exact ih b h
theorem sim_bin {op : BinOp} {t : TypeId} {x y : AV} {a b v : Value} {ox oy : Operand} (hx : VR σ x a) (hy : VR σ y b) (h : abin P op t x y = some v) :
    ∀ w, (do eqGuard op t ox oy a b; binOp op t a b : Sem Value).run P w = .ok v w := by
  intro w
  have fin : ∀ (hg : quietPair a b = true), (binOp op t a b).run P w = .ok v w → (do eqGuard op t ox oy a b; binOp op t a b : Sem Value).run P w = .ok v w := by
    intro hg hb
    rw [Sem.run_bind, guard_run hg, Result.andThen_ok]
    exact hb
  unfold abin at h
  split at h
  · split at h
    case isFalse => cases h
    rename_i hk
    cases hx; cases hy
    exact fin rfl (bin_run hk h t)
  · cases hx; cases hy
    exact fin rfl (str_run h t)
  · split at h
    case isFalse => cases h
    rename_i hd
    cases hx; cases hy
    have hb : P.underlying t = some .bool := by unfold isBoolD at hd; split at hd <;> first | assumption | cases hd
    exact fin rfl (eq_run (fun w => run_equal_bool w t _ _ hb) (fun _ _ ho => by rcases ho with rfl | rfl <;> rfl) h)
  · split at h
    case isFalse => cases h
    rename_i hd
    cases hy
    cases hx with
    | ptr hi =>
    have hb : ∃ e, P.underlying t = some (.pointer e) := by unfold isPtrD at hd; split at hd <;> first | exact ⟨_, by assumption⟩ | cases hd
    obtain ⟨e, he⟩ := hb
    exact fin rfl (eq_run (fun w => eq_ptr_nil he _ w) (fun _ _ ho => by rcases ho with rfl | rfl <;> rfl) h)
  · split at h
    case isFalse => cases h
    rename_i hd
    cases hy; cases hx
    have hb : ∃ e, P.underlying t = some (.pointer e) := by unfold isPtrD at hd; split at hd <;> first | exact ⟨_, by assumption⟩ | cases hd
    obtain ⟨e, he⟩ := hb
    exact fin rfl (eq_run (fun w => eq_ptr_nil he _ w) (fun _ _ ho => by rcases ho with rfl | rfl <;> rfl) h)
  · split at h
    case isFalse => cases h
    rename_i hd
    cases hy
    cases hx with
    | sl hi hc hm ho hl =>
    have hb : ∃ e, P.underlying t = some (.slice e) := by unfold isSliceD at hd; split at hd <;> first | exact ⟨_, by assumption⟩ | cases hd
    obtain ⟨e, he⟩ := hb
    exact fin rfl (eq_run (fun w => eq_slice_nil he _ _ _ _ _ w) (fun _ _ ho => by rcases ho with rfl | rfl <;> rfl) h)
  · split at h
    case isFalse => cases h
    rename_i hd
    cases hy; cases hx
    have hb : ∃ e, P.underlying t = some (.slice e) := by unfold isSliceD at hd; split at hd <;> first | exact ⟨_, by assumption⟩ | cases hd
    obtain ⟨e, he⟩ := hb
    exact fin rfl (eq_run (fun w => eq_slice_nil he _ _ _ _ _ w) (fun _ _ ho => by rcases ho with rfl | rfl <;> rfl) h)
  · rename_i xs ys
    obtain ⟨bb, hb, ho⟩ := Option.bind_eq_some_iff.1 h
    unfold aeqS at hb
    split at hb
    case h_2 => cases hb
    rename_i fs hu
    split at hb
    case isFalse => cases hb
    rename_i hpq
    have hfs : P.fieldsOf t = fs := by unfold Program.fieldsOf; rw [hu]
    cases hx with
    | agg hn1 hv1 =>
    cases hy with
    | agg hn2 hv2 =>
    rename_i vs us
    have hrun : ∀ w, (Op.equalIn 10000 t (.agg vs) (.agg us)).run P w = .ok bb w := fun w => by
      rw [run_equalIn_agg w 9999 t vs us (by rw [hfs]; exact hu) hpq.1, hfs]
      exact eqF_run (.agg hn1 hv1) (.agg hn2 hv2) 9998 w fs.toList bb hb
    rw [Sem.run_bind, run_eqGuard_agg w op t ox oy vs us hpq.2, Result.andThen_ok]
    cases op <;> simp only [aeqOp] at ho <;> (try (cases ho; done)) <;> (injection ho with ho; subst ho)
    · rw [run_eql_struct, hrun, Result.andThen_ok]
    · rw [run_neq_struct, hrun, Result.andThen_ok]
  · cases h
theorem sim_un {op : UnOp} {x : AV} {a v : Value} (hx : VR σ x a) (h : aun op x = some v) : ∀ w, (Op.unary op a).run P w = .ok v w := by
  intro w
  unfold aun at h
  split at h
  · cases hx
    cases op <;> simp only at h <;> (try (cases h; done)) <;> (injection h with h; subst h) <;> simp [Op.unary, Op.intArith, Op.intBits, bits]
  · cases hx
    cases op <;> simp only at h <;> (try (cases h; done)) <;> (injection h with h; subst h) <;> simp [Op.unary]
  · cases h
end
end Go.Proofs.YthjfncppiffnmaaDoor.Ra
/- What the operations come to in the machine: what is made. -/
namespace Go.Proofs.YthjfncppiffnmaaDoor.Ra
open Go Go.RowKit
set_option linter.unusedVariables false
set_option linter.unusedSimpArgs false
section
variable {P : Program} {w0 : World} {σ : Ren} {st : St} {w : World}
theorem fill_one (off : Nat) : ∀ (l : List Value) (k : Nat) (arr : Array Value), off + k + l.length ≤ arr.size →
    ((l.zipIdx k).foldl (fun (cs : Array Value) (x : Value × Nat) => cs.setIfInBounds (off + x.2) x.1) arr).toList = arr.toList.take (off + k) ++ l ++ arr.toList.drop (off + k + l.length)
  | [], k, arr, _ => by simp
  | v :: r, k, arr, h => by
    simp only [List.zipIdx_cons, List.foldl_cons]
    rw [fill_one off r (k + 1) (arr.setIfInBounds (off + k) v) (by simp at h ⊢; omega)]
    have e := list_seg_step arr.toList (off + k) v r (by simp at h ⊢; omega)
    simpa [Array.toList_setIfInBounds, Nat.add_assoc] using e
theorem fill_cells (off : Nat) (u : Array Value) (arr : Array Value) (h : off + u.size ≤ arr.size) :
    (u.zipIdx.foldl (fun (cs : Array Value) (x : Value × Nat) => cs.setIfInBounds (off + x.2) x.1) arr).toList = arr.toList.take off ++ u.toList ++ arr.toList.drop (off + u.size) := by
  have := fill_one off u.toList 0 arr (by simpa using h)
  rw [← Array.foldl_toList, Array.toList_zipIdx]
  simpa using this
theorem sim_fill {fr : AFr} {a : Act} (hF : FR σ fr a) (place : Nat → Option (Nat × Nat)) : ∀ (ps : List (Nat × Operand)) (cells : List AV) (vc : Array Value) (cs : List AV), CR σ cells vc.toList → afill place cells (ps.map fun p => (p.1, aeval fr p.2)) = some cs →
    ∃ vcs : Array Value, Instr.fill place vc (ps.map fun p => (p.1, a.eval p.2)) = some vcs ∧ CR σ cs vcs.toList
  | [], cells, vc, cs, hc, h => by
    simp only [List.map_nil, afill, Option.some.injEq] at h
    subst h
    exact ⟨vc, rfl, hc⟩
  | (i, x) :: r, cells, vc, cs, hc, h => by
    simp only [List.map_cons, afill] at h
    simp only [List.map_cons, Instr.fill]
    cases hp : place i with
    | none => simp only [hp] at h; cases h
    | some z =>
      obtain ⟨off, size⟩ := z
      simp only [hp] at h ⊢
      split at h
      case isFalse => cases h
      rename_i hcond
      have hv := (hF.eval x).cells hcond.1
      have hl := hv.1
      simp only [Array.length_toList] at hl
      have hcl := hc.1
      simp only [Array.length_toList] at hcl
      have hno : (decide ((a.eval x).cells.size ≠ size) || decide (off + (a.eval x).cells.size > vc.size)) = false := by
        simp only [Bool.or_eq_false_iff, decide_eq_false_iff_not]
        omega
      rw [hno]
      simp only [Bool.false_eq_true, if_false]
      refine sim_fill hF place r _ _ cs ?_ h
      have e := fill_cells off (a.eval x).cells vc (by omega)
      unfold splice
      have e2 : (Array.foldl (fun cs (x : Value × Nat) => match x with | (c, j) => cs.setIfInBounds (off + j) c) vc (a.eval x).cells.zipIdx).toList = vc.toList.take off ++ (a.eval x).cells.toList ++ vc.toList.drop (off + (a.eval x).cells.size) := e
      rw [e2, hl]
      exact ((hc.take off).append hv).append (hc.drop _)
theorem zero_run {t : TypeId} {z : Value} (h : (P.info? t).bind (·.zero) = some z) (w : World) : (zeroValue t).run P w = .ok z w := by
  obtain ⟨i, hi, hz⟩ := Option.bind_eq_some_iff.1 h
  simp [zeroValue, typeInfo, hi, hz]
/-- What is new has a new name. -/
structure New (σ σ' : Ren) (id : Nat) : Prop where
  sub : Sub σ σ'
  only : ∀ i, i ≠ id → σ i = none → σ' i = none
theorem New.refl (σ : Ren) (id : Nat) : New σ σ id := ⟨Sub.refl σ, fun _ _ h => h⟩
theorem New.set {id : Nat} (hid : σ id = none) (l : Loc) : New σ (σ.set id l) id := ⟨Ren.set_sub σ hid l, fun i hi h => by simp [Ren.set, hi, h]⟩
theorem sim_box (h : Sim P w0 σ st w) {id : Nat} (hid : σ id = none) (hn : id < st.n) {e : TypeId} {s : Nat} (hs : szOf P e = some s) {x : AV} {v : Value} (hv : VR σ x v) (hx : x.solid = true) :
    ∃ r w' σ', (Instr.box e v).run P w = .ok r w' ∧ New σ σ' id ∧ Sim P w0 σ' (st.put id ⟨x.cells, e, true, id⟩) w' ∧ VR σ' (.ptr id 0) r := by
  have hc := hv.cells hx
  have hN := h.new hid hn (e := e) hs (xs := x.cells) (c := v.cells) (by rw [List.take_of_length_le (by have := hc.1; omega)]; exact hc) (0, 0) true id (fun _ => rfl)
  refine ⟨_, _, _, ?_, New.set hid _, hN, .ptr (Ren.set_at _ _ _)⟩
  rfl
theorem sim_alloc (h : Sim P w0 σ st w) {id : Nat} (hid : σ id = none) (hn : id < st.n) {e : TypeId} {s : Nat} (hs : szOf P e = some s) {cs : List AV} (hz : zcells P e = some cs) :
    ∃ r w' σ', (Instr.alloc e true (.tuple #[])).run P w = .ok r w' ∧ New σ σ' id ∧ Sim P w0 σ' (st.put id ⟨cs, e, true, id⟩) w' ∧ VR σ' (.ptr id 0) r := by
  obtain ⟨z, hzz, rfl⟩ := Option.map_eq_some_iff.1 hz
  have hN := h.new hid hn (e := e) hs (xs := z.cells.toList.map .pl) (c := z.cells) (by rw [List.take_of_length_le (by simp)]; exact CR.pls σ _) (0, 0) true id (fun _ => rfl)
  refine ⟨_, _, _, ?_, New.set hid _, hN, .ptr (Ren.set_at _ _ _)⟩
  simp only [Instr.alloc, Sem.run_bind, zero_run hzz, Result.andThen_ok]
  rfl
theorem sim_makeSlice (h : Sim P w0 σ st w) {id : Nat} (hid : σ id = none) (hn : id < st.n) {t e : TypeId} {i : TypeInfo} {z : Value} {kl kc : IntKind} {n : Int} (ht : P.underlying t = some (.slice e)) (hi : P.info? e = some i) (hz : i.zero = some z) (hs0 : 0 < i.size) (h0 : 0 ≤ n) (hb : (i.bytes : Int) * n ≤ 281474976710656) (h63 : n ≤ 9223372036854775807) :
    ∃ r w' σ', (Instr.makeSlice t (.int kl n) (.int kc n)).run P w = .ok r w' ∧ New σ σ' id ∧ Sim P w0 σ' (st.put id ⟨(madeCells z.cells (n.toNat * i.size)).toList.map .pl, e, true, id⟩) w' ∧ VR σ' (.sl id 0 n.toNat i.size) r := by
  have hr := run_make (P := P) w t e i z ht hi hz kl kc n n h0 (Int.le_refl _) hb h63
  have hN := h.new hid hn (e := e) (s := i.size) (by rw [hi]; rfl) (xs := (madeCells z.cells (n.toNat * i.size)).toList.map .pl) (c := madeCells z.cells (n.toNat * i.size)) (by rw [List.take_of_length_le (by simp)]; exact CR.pls σ _) (0, 0) true id (fun _ => rfl)
  refine ⟨_, _, _, hr, New.set hid _, hN, .sl (Ren.set_at _ _ _) (Nat.le_refl _) (by simp only [maxLen]; omega) (.inr rfl) (fun _ => ⟨rfl, hs0, ?_⟩)⟩
  show 0 + 0 + n.toNat * i.size ≤ (madeCells z.cells (n.toNat * i.size)).size
  rw [size_madeCells]
  omega
end
end Go.Proofs.YthjfncppiffnmaaDoor.Ra
/- What the operations come to in the machine: structs and slices written out. -/
namespace Go.Proofs.YthjfncppiffnmaaDoor.Ra
open Go Go.RowKit
set_option linter.unusedVariables false
set_option linter.unusedSimpArgs false
section
variable {P : Program} {w0 : World} {σ : Ren} {st : St} {w : World}
theorem mapM_fields (fs : Array Field) (h : fs.all (fun f : Field => (szOf P f.type).isSome) = true) (w : World) :
    (fs.mapM fun f => do pure (f.offset, ← sizeOf f.type) : Sem (Array (Nat × Nat))).run P w = .ok (fs.map fun f : Field => (f.offset, (szOf P f.type).getD 0)) w := by
  have key : ∀ (l : List Field), (∀ f ∈ l, (szOf P f.type).isSome = true) → (l.mapM fun f => do pure (f.offset, ← sizeOf f.type) : Sem (List (Nat × Nat))).run P w = .ok (l.map fun f => (f.offset, (szOf P f.type).getD 0)) w := by
    intro l
    induction l with
    | nil => intro _; rfl
    | cons f r ih =>
      intro hl
      obtain ⟨s, hs⟩ := Option.isSome_iff_exists.1 (hl f (by simp))
      simp only [List.mapM_cons, Sem.run_bind, sz_run hs, Result.andThen_ok, Sem.run_pure, ih (fun g hg => hl g (by simp [hg])), List.map_cons, hs, Option.getD_some]
  have h2 := key fs.toList (fun f hf => by
    have := Array.all_eq_true_iff_forall_mem.1 h f (Array.mem_toList_iff.1 hf)
    exact this)
  rw [Array.mapM_eq_mapM_toList]
  simp only [map_eq_pure_bind, Sem.run_bind, h2, Result.andThen_ok, Sem.run_pure]
  congr 1
  apply Array.toList_inj.1
  simp
theorem sim_build {fr : AFr} {a : Act} (hF : FR σ fr a) {t : TypeId} {fs : Array Field} {z : List AV} {cs : List AV} {ps : Array (Nat × Operand)} (ht : P.underlying t = some (.struct fs)) (hz : zcells P t = some z) (hall : fs.all (fun f : Field => (szOf P f.type).isSome) = true)
    (h : afill (fun i : Nat => (fs[i]?).bind fun f : Field => (szOf P f.type).map fun s => (f.offset, s)) z (ps.toList.map fun p => (p.1, aeval fr p.2)) = some cs) (w : World) :
    ∃ r, (Instr.build t (ps.map fun (i, x) => (i, a.eval x))).run P w = .ok r w ∧ VR σ (.agg cs) r := by
  obtain ⟨zv, hzv, rfl⟩ := Option.map_eq_some_iff.1 hz
  obtain ⟨vcs, h1, h2⟩ := sim_fill hF _ ps.toList _ zv.cells cs (CR.pls σ _) h
  refine ⟨.agg vcs, ?_, .agg (by simpa using h2.1) (fun j x v hx hv => h2.2 j x v hx (by simpa using hv))⟩
  have hpl : (fun i : Nat => (fs.map fun f : Field => (f.offset, (szOf P f.type).getD 0))[i]?) = (fun i : Nat => (fs[i]?).bind fun f : Field => (szOf P f.type).map fun s => (f.offset, s)) := by
    funext i
    rw [Array.getElem?_map]
    cases hf : fs[i]? with
    | none => rfl
    | some f =>
      have := Array.all_eq_true_iff_forall_mem.1 hall f (Array.mem_of_getElem? hf)
      obtain ⟨s, hs⟩ := Option.isSome_iff_exists.1 this
      simp [hs]
  have h3 : Instr.fill (fun i : Nat => (fs.map fun f : Field => (f.offset, (szOf P f.type).getD 0))[i]?) zv.cells (ps.map fun (i, x) => (i, a.eval x)).toList = some vcs := by
    rw [hpl, Array.toList_map]
    exact h1
  simp only [Instr.build, Sem.run_bind, zero_run hzv, Result.andThen_ok, run_underlying ht, mapM_fields fs hall, h3, Sem.run_pure]
theorem sim_buildSlice (h : Sim P w0 σ st w) {id : Nat} (hid : σ id = none) (hn : id < st.n) {fr : AFr} {a : Act} (hF : FR σ fr a) {t e : TypeId} {s len : Nat} {z : Value} {cs : List AV} {ps : Array (Nat × Operand)} (ht : P.underlying t = some (.slice e)) (hs : szOf P e = some s) (hz : (P.info? e).bind (·.zero) = some z)
    (hs0 : 0 < s) (hb : len * s ≤ 2 ^ 24) (hm : len ≤ maxLen) (hzs : z.cells.size = s)
    (hf : afill (fun i => some (i * s, s)) (((Array.range (len * s)).map (z.cells[· % z.cells.size]!)).toList.map .pl) (ps.toList.map fun p => (p.1, aeval fr p.2)) = some cs) :
    ∃ r w' σ', (Instr.buildSlice t len (ps.map fun (i, x) => (i, a.eval x))).run P w = .ok r w' ∧ New σ σ' id ∧ Sim P w0 σ' (st.put id ⟨cs, e, true, id⟩) w' ∧ VR σ' (.sl id 0 len s) r := by
  obtain ⟨vcs, h1, h2⟩ := sim_fill hF _ ps.toList _ ((Array.range (len * s)).map (z.cells[· % z.cells.size]!)) cs (CR.pls σ _) hf
  have hlen : ∀ (q : List (Nat × Value)) (c0 c1 : Array Value), Instr.fill (fun i => some (i * s, s)) c0 q = some c1 → c1.size = c0.size := by
    intro q
    induction q with
    | nil => intro c0 c1 hq; simp only [Instr.fill, Option.some.injEq] at hq; rw [hq]
    | cons p r ih =>
      intro c0 c1 hq
      obtain ⟨i, v⟩ := p
      simp only [Instr.fill] at hq
      split at hq
      · cases hq
      · rename_i hcond
        simp only [Bool.or_eq_true, decide_eq_true_eq, not_or] at hcond
        have := ih _ _ hq
        rw [this]
        have e := fill_cells (i * s) v.cells c0 (by omega)
        have e3 := congrArg List.length e
        simp only [Array.length_toList, List.length_append, List.length_take, List.length_drop] at e3
        have e4 : (Array.foldl (fun cs (x : Value × Nat) => match x with | (c, j) => cs.setIfInBounds (i * s + j) c) c0 v.cells.zipIdx).size = _ := e3
        rw [e4]
        omega
  have hsz := hlen _ _ _ h1
  simp only [Array.size_map, Array.size_range] at hsz
  have hN := h.new hid hn (e := e) hs (xs := cs) (c := vcs) (by rw [List.take_of_length_le (by have := h2.1; omega)]; exact h2) (0, 0) true id (fun _ => rfl)
  refine ⟨_, _, _, ?_, New.set hid _, hN, .sl (Ren.set_at _ _ _) (Nat.le_refl _) hm (.inr rfl) (fun _ => ⟨rfl, hs0, ?_⟩)⟩
  · have hno : ¬ len * s > 16777216 := by omega
    have h3 : Instr.fill (fun i => some (i * s, s)) ((Array.range (len * s)).map (z.cells[· % z.cells.size]!)) (ps.map fun (i, x) => (i, a.eval x)).toList = some vcs := by
      rw [Array.toList_map]
      exact h1
    by_cases h0 : len * s = 0
    · have hmap : (Array.range (len * s)).map (fun i => (#[] : Array Value)[i % (#[] : Array Value).size]!) = (Array.range (len * s)).map (fun i => z.cells[i % z.cells.size]!) := by
        rw [h0]
        simp [Array.range]
      simp only [Instr.buildSlice, Sem.run_bind, run_underlying ht, Result.andThen_ok, sz_run hs, show (2 : Nat) ^ 24 = 16777216 from rfl, hno, if_false, if_pos h0, Sem.run_pure]
      rw [hmap, h3]
      rfl
    · simp only [Instr.buildSlice, Sem.run_bind, run_underlying ht, Result.andThen_ok, sz_run hs, show (2 : Nat) ^ 24 = 16777216 from rfl, hno, if_false, if_neg h0, Sem.run_pure, zero_run hz]
      rw [h3]
      rfl
  · show 0 + 0 + len * s ≤ vcs.size
    omega
end
end Go.Proofs.YthjfncppiffnmaaDoor.Ra
/- What the operations come to in the machine: append. -/
namespace Go.Proofs.YthjfncppiffnmaaDoor.Ra
open Go Go.RowKit
set_option linter.unusedVariables false
set_option linter.unusedSimpArgs false
section
variable {P : Program} {w0 : World} {σ : Ren} {st : St} {w : World}
/-- What is put behind is read from where it lies. -/
theorem sim_src (h : Sim P w0 σ st w) {size m : Nat} {x : AV} {v : Value} {news : List AV} (hv : VR σ x v) (ha : asrc P st size x = some (news, m)) :
    ∃ (xa : Option Addr) (c : Nat) (vs : List Value), v = .slice xa m c ∧ CR σ news vs ∧ vs.length = m * size ∧ (Builtin.firstCells size m v).run P w = .ok vs.toArray w ∧ (Builtin.firstCells size m v).run P w.drew = .ok vs.toArray w.drew := by
  unfold asrc at ha
  split at ha
  · rename_i j off m' es
    split at ha
    · rename_i hm0
      subst hm0
      simp only [Option.some.injEq, Prod.mk.injEq] at ha
      obtain ⟨rfl, rfl⟩ := ha
      cases hv with
      | sl hi hc hm hoff hl => exact ⟨_, _, [], rfl, CR.nil σ, by simp, by simp [Builtin.firstCells, loadCells, loadCellsFrom], by simp [Builtin.firstCells, loadCells, loadCellsFrom]⟩
    split at ha
    case h_2 => cases ha
    rename_i o ho
    split at ha
    case isFalse => cases ha
    rename_i hlen
    simp only [Option.some.injEq, Prod.mk.injEq] at ha
    obtain ⟨rfl, rfl⟩ := ha
    cases hv with
    | sl hi hc hm hoff hl =>
    rename_i cap q l
    obtain ⟨vs, hvl, hcr, hcell⟩ := h.range ho hi hlen
    have hc2 : ∀ j u, vs[j]? = some u → w.cell? ((⟨l.blk, q, none⟩ : Addr).add j) = some u := by
      intro j u hu
      have hj : j < vs.length := (List.getElem?_eq_some_iff.1 hu).1
      have : cap ≠ 0 := by
        intro e
        have : m' = 0 := by omega
        subst this
        simp at hvl
        rw [hvl] at hj
        simp at hj
      have hq := hoff.resolve_left this
      rw [add_at, hq]
      exact hcell j u hu
    refine ⟨_, cap, vs, rfl, hcr, hvl, ?_, ?_⟩
    · exact run_firstCells_some (P := P) w size m' _ m' cap vs hvl hc2
    · exact run_firstCells_some (P := P) w.drew size m' _ m' cap vs hvl hc2
  · simp only [Option.some.injEq, Prod.mk.injEq] at ha
    obtain ⟨rfl, rfl⟩ := ha
    cases hv
    rename_i q c
    exact ⟨q, c, [], rfl, CR.nil σ, by simp, by cases q <;> simp [Builtin.firstCells, loadCells, loadCellsFrom], by cases q <;> simp [Builtin.firstCells, loadCells, loadCellsFrom]⟩
  · cases ha
theorem append_room {t ty e : TypeId} {i : TypeInfo} (ht : P.underlying t = some (.slice e)) (hi : P.info? e = some i) {g o sLen sCap m c : Nat} {xa : Option Addr} {vs : List Value} {cur : Array Value} (hg : w.heap[g]? = some (.cells cur e (0, 0)))
    (hf : (Builtin.firstCells i.size m (.slice xa m c)).run P w = .ok vs.toArray w) (h1 : ∀ u ∈ vs, u.oneCell' = true) (hroom : sLen + m ≤ sCap) (hfit : o + sLen * i.size + vs.length ≤ cur.size) :
    (Builtin.append_ #[t, t] ty #[.slice (some ⟨g, o, none⟩) sLen sCap, .slice xa m c]).run P w =
      .ok (.slice (some ⟨g, o, none⟩) (sLen + m) sCap) (w.setRow g (cur.toList.take (o + sLen * i.size) ++ vs ++ cur.toList.drop (o + sLen * i.size + vs.length)).toArray) := by
  have hst := run_storeCells_at P g (o + sLen * i.size) e vs 0 cur w hg (by simpa using hfit) h1
  simp only [Nat.add_zero] at hst
  simp [Builtin.append_, run_underlying ht, sizeOf, typeInfo, hi, Builtin.lenOf, hroom, hf, add_at, hst]
theorem append_grow {t ty e : TypeId} {i : TypeInfo} {z : Value} (ht : P.underlying t = some (.slice e)) (hi : P.info? e = some i) (hz : i.zero = some z) {ba xa : Option Addr} {sLen sCap m c : Nat} {us vs : List Value}
    (hs : (Builtin.firstCells i.size sLen (.slice ba sLen sCap)).run P w.drew = .ok us.toArray w.drew) (hf : (Builtin.firstCells i.size m (.slice xa m c)).run P w.drew = .ok vs.toArray w.drew)
    (hg : sCap < sLen + m) (h63 : ((sLen + m : Nat) : Int) ≤ 9223372036854775807) (hfit : Builtin.nextslicecap (sLen + m) sCap * i.bytes ≤ 281474976710656) :
    (Builtin.append_ #[t, t] ty #[.slice ba sLen sCap, .slice xa m c]).run P w =
      .ok (.slice (some ⟨w.heap.size, 0, none⟩) (sLen + m) (grownCap w (sLen + m) sCap e))
        (w.drew.alloc (.cells (us.toArray ++ vs.toArray ++ Builtin.zeroCells z.cells (grownCap w (sLen + m) sCap e - (sLen + m))) e)) := by
  have hn : ¬ (sLen + m ≤ sCap) := by omega
  have h63' : ¬ (9223372036854775807 < ((sLen : Int) + (m : Int))) := by omega
  have h48' : ¬ (281474976710656 < Builtin.nextslicecap (sLen + m) sCap * i.bytes) := by omega
  simp [Builtin.append_, run_underlying ht, sizeOf, typeInfo, zeroValue, hi, hz, Builtin.lenOf, hn, h63', h48', Question.forced, newRow, grownCap]
  rw [hs]
  simp only [Result.andThen_ok]
  rw [hf]
  simp only [Result.andThen_ok, World.size_drew, Result.ok.injEq, true_and]
  congr 2
  apply Array.toList_inj.1
  simp
theorem sim_grown (h : Sim P w0 σ st w) {id : Nat} (hid : σ id = none) (hn : id < st.n) {t ty e : TypeId} {i : TypeInfo} {z : Value} (ht : P.underlying t = some (.slice e)) (hi : P.info? e = some i) (hz : i.zero = some z) (hzs : z.cells.size = i.size) (hs0 : 0 < i.size)
    {ba xa : Option Addr} {sLen sCap m c : Nat} {us vs : List Value} {xs : List AV} (hcr : CR σ xs (us ++ vs)) (hus : us.length = sLen * i.size) (hvs : vs.length = m * i.size)
    (hs : (Builtin.firstCells i.size sLen (.slice ba sLen sCap)).run P w.drew = .ok us.toArray w.drew) (hf : (Builtin.firstCells i.size m (.slice xa m c)).run P w.drew = .ok vs.toArray w.drew)
    (hg : sCap < sLen + m) (hb : (sLen + m) * i.bytes ≤ 140737488355328) (hm : sLen + m ≤ maxLen) (gr : Nat) :
    ∃ r w' σ', (Builtin.append_ #[t, t] ty #[.slice ba sLen sCap, .slice xa m c]).run P w = .ok r w' ∧ New σ σ' id ∧ Sim P w0 σ' (st.put id ⟨xs, e, true, gr⟩) w' ∧ VR σ' (.sl id 0 (sLen + m) i.size) r := by
  have hr := append_grow (P := P) (w := w) (ty := ty) ht hi hz hs hf hg (by simp only [maxLen] at hm; omega) (growslice_fits hg hb)
  have hge := grownCap_ge w (sLen + m) sCap e
  have hcm := grownCap_le_maxLen w (sLen + m) sCap e hm
  have hlen : xs.length = (sLen + m) * i.size := by rw [hcr.1, List.length_append, hus, hvs, Nat.add_mul]
  have hcs : (us.toArray ++ vs.toArray ++ Builtin.zeroCells z.cells (grownCap w (sLen + m) sCap e - (sLen + m))).size = grownCap w (sLen + m) sCap e * i.size := by
    simp only [Array.size_append, List.size_toArray, size_zeroCells, hzs, hus, hvs, ← Nat.add_mul]
    congr 1
    omega
  have hN := h.drew.new hid hn (e := e) (s := i.size) (by rw [hi]; rfl) (xs := xs) (c := us.toArray ++ vs.toArray ++ Builtin.zeroCells z.cells (grownCap w (sLen + m) sCap e - (sLen + m))) (by
    have : (us.toArray ++ vs.toArray ++ Builtin.zeroCells z.cells (grownCap w (sLen + m) sCap e - (sLen + m))).toList.take xs.length = us ++ vs := by
      simp only [Array.toList_append, List.append_assoc]
      rw [← List.append_assoc, show xs.length = (us ++ vs).length from hcr.1]
      exact List.take_left
    rw [this]
    exact hcr) (0, 0) true gr (fun _ => rfl)
  refine ⟨_, _, _, hr, New.set hid _, hN, ?_⟩
  refine .sl (σ := σ.set id _) (l := ⟨w.heap.size, 0, _, i.size, true⟩) (Ren.set_at _ _ _) hge hcm (.inr rfl) (fun _ => ⟨rfl, hs0, Nat.le_of_eq ?_⟩)
  simp only [Nat.zero_add]
  exact hcs.symm
theorem sim_append (h : Sim P w0 σ st w) {id : Nat} (hid : σ id = none) (hn : id < st.n) {t ty : TypeId} {s x y : AV} {sv xv : Value} {st' : St} (hs : VR σ s sv) (hx : VR σ x xv) (ha : aappend P st id t s x = some (y, st')) :
    ∃ r w' σ', (Builtin.append_ #[t, t] ty #[sv, xv]).run P w = .ok r w' ∧ New σ σ' id ∧ Sim P w0 σ' st' w' ∧ VR σ' y r := by
  unfold aappend at ha
  split at ha
  case h_2 => cases ha
  rename_i e ht
  split at ha
  case h_2 => cases ha
  rename_i i hi
  split at ha
  case h_2 => cases ha
  rename_i news m hsrc
  obtain ⟨xa, c, vs, rfl, hcr, hvl, hf1, hf2⟩ := sim_src h hx hsrc
  split at ha
  · rename_i j off len es
    split at ha
    case h_2 => cases ha
    rename_i o ho
    split at ha
    case isFalse => cases ha
    rename_i hcond
    obtain ⟨hown, hoe, hs0, hz, hoff, hb, hm, hone⟩ := hcond
    obtain ⟨z, hz1, hzs⟩ := Option.map_eq_some_iff.1 hz
    simp only [Option.some.injEq, Prod.mk.injEq] at ha
    obtain ⟨rfl, rfl⟩ := ha
    cases hs with
    | sl hj hc hmc hq hl =>
    rename_i cap q l
    obtain ⟨l2, hl2, h1, cur, e1, fz, h2, h3, h4⟩ := h.obj j o ho
    rw [hj] at hl2
    cases hl2
    have hlo : l.own = true := by rw [← h1]; exact hown
    obtain ⟨rfl, g2, g3, g4, g5⟩ := h4 hlo
    obtain ⟨rfl, es0, elim⟩ := hl hlo
    have hee : l.esz = i.size := by
      rw [g2, hoe, hi] at g4
      simpa using g4.symm
    have hone2 := hcr.ones hone
    by_cases hroom : len + m ≤ cap
    · have hqq : q = l.base + off ∨ (cap = 0) := hq.symm
      have hfit : q + len * i.size + vs.length ≤ cur.size ∨ cap = 0 := by
        rcases hqq with hqq | hqq
        · refine .inl ?_
          rw [hqq, hvl, g3]
          have e5 : len * i.size + m * i.size ≤ cap * i.size := by rw [← Nat.add_mul]; exact Nat.mul_le_mul_right _ hroom
          rw [hee] at elim
          omega
        · exact .inr hqq
      have e6 : e1 = e := g2.trans hoe
      by_cases hc0 : cap = 0
      · obtain rfl : len = 0 := by omega
        obtain rfl : m = 0 := by omega
        have hv0 : vs = [] := List.eq_nil_of_length_eq_zero (by simpa using hvl)
        subst hv0
        have hn0 : news = [] := List.eq_nil_of_length_eq_zero (by simpa using hcr.1)
        subst hn0
        subst hc0
        have hself := setRow_self w l.blk cur e1 (0, 0) h2
        have hout : ∃ w', (Builtin.append_ #[t, t] ty #[.slice (some ⟨l.blk, q, none⟩) 0 0, .slice xa 0 c]).run P w = .ok (.slice (some ⟨l.blk, q, none⟩) 0 0) w' ∧ w' = w := by
          refine ⟨w, ?_, rfl⟩
          simp [Builtin.append_, run_underlying ht, sizeOf, typeInfo, hi, Builtin.lenOf, hf1, storeCells]
        obtain ⟨w', hrun, rfl⟩ := hout
        by_cases hof : off = 0
        · subst hof
          rw [if_pos rfl]
          have hE := h.extend ho hj hlo h2 hid hn (xs := o.cells ++ []) (c := cur) (off := 0 * i.size) (n := 0 * i.size) rfl (by rw [List.append_nil]; exact g5) (fun _ _ => rfl) (by rw [List.append_nil]; exact h3)
          rw [hself] at hE
          rw [hoe] at hE
          refine ⟨_, w', _, hrun, New.set hid _, hE, .sl (l := ⟨l.blk, l.base, l.lim, l.esz, true⟩) (Ren.set_at _ _ _) (Nat.le_refl _) (Nat.zero_le _) (.inl rfl) (fun _ => ⟨hee.symm, hs0, ?_⟩)⟩
          show l.base + 0 + 0 * i.size ≤ l.lim
          rw [← g3]
          omega
        · rw [if_neg hof]
          have hE := h.extendCut ho hj hlo h2 hid hn (xs := o.cells.drop off ++ []) (c := cur) (off := off) id rfl (by simp only [List.append_nil, List.length_drop]; omega) (by
            rw [List.append_nil]
            have := (h3.drop off)
            rw [List.drop_take, List.drop_drop] at this
            rw [List.length_drop]
            exact this)
          rw [hself] at hE
          rw [hoe] at hE
          refine ⟨_, w', _, hrun, New.set hid _, hE, .sl (l := ⟨l.blk, l.base + off, l.lim, l.esz, true⟩) (Ren.set_at _ _ _) (Nat.le_refl _) (Nat.zero_le _) (.inl rfl) (fun _ => ⟨hee.symm, hs0, ?_⟩)⟩
          show l.base + off + 0 + 0 * i.size ≤ l.lim
          rw [← g3]
          omega
      · have hqq2 := hq.resolve_left hc0
        subst hqq2
        have hfit2 := hfit.resolve_right hc0
        have hr := append_room (P := P) (w := w) (ty := ty) (sCap := cap) ht hi (by rw [← e6]; exact h2) hf1 hone2 hroom hfit2
        have hcsz : (cur.toList.take (l.base + off + len * i.size) ++ vs ++ cur.toList.drop (l.base + off + len * i.size + vs.length)).toArray.size = cur.size := by
          simp only [List.size_toArray, List.length_append, List.length_take, List.length_drop, Array.length_toList]
          omega
        have hol : (o.cells.drop off).length = len * i.size := by rw [List.length_drop]; omega
        have hcc : CR σ (o.cells.drop off ++ news) (((cur.toList.take (l.base + off + len * i.size) ++ vs ++ cur.toList.drop (l.base + off + len * i.size + vs.length)).toArray.toList.drop (l.base + off)).take (o.cells.drop off ++ news).length) := by
          have hA : CR σ (o.cells.drop off) ((cur.toList.drop (l.base + off)).take (len * i.size)) := by
            have := h3.drop off
            rw [List.drop_take, List.drop_drop] at this
            rw [show o.cells.length - off = len * i.size by omega] at this
            exact this
          have := hA.append hcr
          have e7 : ((cur.toList.take (l.base + off + len * i.size) ++ vs ++ cur.toList.drop (l.base + off + len * i.size + vs.length)).toArray.toList.drop (l.base + off)).take (o.cells.drop off ++ news).length = (cur.toList.drop (l.base + off)).take (len * i.size) ++ vs := by
            rw [List.length_append, hol, hcr.1]
            have hAl : (cur.toList.take (l.base + off + len * i.size)).length = l.base + off + len * i.size := by rw [List.length_take, Array.length_toList]; omega
            show (List.drop (l.base + off) (cur.toList.take (l.base + off + len * i.size) ++ vs ++ cur.toList.drop (l.base + off + len * i.size + vs.length))).take (len * i.size + vs.length) = _
            rw [List.append_assoc, List.drop_append_of_le_length (by omega), ← List.append_assoc]
            have hB : (List.drop (l.base + off) (cur.toList.take (l.base + off + len * i.size))) = (cur.toList.drop (l.base + off)).take (len * i.size) := by
              rw [List.drop_take]
              congr 1
              omega
            rw [hB]
            have hC : ((cur.toList.drop (l.base + off)).take (len * i.size) ++ vs).length = len * i.size + vs.length := by
              rw [List.length_append, List.length_take, List.length_drop, Array.length_toList]
              omega
            rw [← hC]
            exact List.take_left
          rw [e7]
          exact this
        have hfitl : l.base + off + (o.cells.drop off ++ news).length ≤ (cur.toList.take (l.base + off + len * i.size) ++ vs ++ cur.toList.drop (l.base + off + len * i.size + vs.length)).toArray.size := by
          rw [hcsz, List.length_append, hol, hcr.1]
          omega
        rw [hee] at elim
        by_cases hof : off = 0
        · subst hof
          rw [if_pos rfl]
          simp only [Nat.add_zero, List.drop_zero] at hcc hfitl hr elim hcsz
          have hE := h.extend ho hj hlo h2 hid hn (xs := o.cells ++ news) (c := (cur.toList.take (l.base + len * i.size) ++ vs ++ cur.toList.drop (l.base + len * i.size + vs.length)).toArray) (off := len * i.size) (n := m * i.size) hcsz hfitl (by
            intro p hp
            have hAl : (cur.toList.take (l.base + len * i.size)).length = l.base + len * i.size := by rw [List.length_take, Array.length_toList]; omega
            simp only [List.getElem?_toArray]
            rcases hp with hp | hp
            · rw [List.append_assoc, List.getElem?_append_left (by omega), List.getElem?_take, if_pos hp, Array.getElem?_toList]
            · rw [List.getElem?_append_right (by rw [List.length_append]; omega), List.getElem?_drop, List.length_append, hAl, Array.getElem?_toList]
              congr 1
              omega) hcc
          rw [hoe] at hE
          refine ⟨_, _, _, hr, New.set hid _, hE, .sl (l := ⟨l.blk, l.base, l.lim, l.esz, true⟩) (Ren.set_at _ _ _) hroom hmc (.inr rfl) (fun _ => ⟨hee.symm, hs0, elim⟩)⟩
        · rw [if_neg hof]
          have hE := h.extendCut ho hj hlo h2 hid hn (xs := o.cells.drop off ++ news) (c := (cur.toList.take (l.base + off + len * i.size) ++ vs ++ cur.toList.drop (l.base + off + len * i.size + vs.length)).toArray) (off := off) id hcsz hfitl hcc
          rw [hoe] at hE
          refine ⟨_, _, _, hr, New.set hid _, hE, .sl (l := ⟨l.blk, l.base + off, l.lim, l.esz, true⟩) (Ren.set_at _ _ _) hroom hmc (.inr (Nat.add_zero _).symm) (fun _ => ⟨hee.symm, hs0, ?_⟩)⟩
          show l.base + off + 0 + cap * i.size ≤ l.lim
          omega
    · obtain ⟨us, hul, hucr, hucell⟩ := h.range ho hj (off := off) (n := len * i.size) (by omega)
      have hfs : (Builtin.firstCells i.size len (.slice (some ⟨l.blk, q, none⟩) len cap)).run P w.drew = .ok us.toArray w.drew := by
        refine run_firstCells_some (P := P) w.drew i.size len _ len cap us hul (fun k u hu => ?_)
        have hk : k < us.length := (List.getElem?_eq_some_iff.1 hu).1
        have : cap ≠ 0 := by
          intro e5
          obtain rfl : len = 0 := by omega
          simp at hul
          rw [hul] at hk
          simp at hk
        rw [add_at, hq.resolve_left this]
        exact hucell k u hu
      have hdr : (o.cells.drop off).take (len * i.size) = o.cells.drop off := List.take_of_length_le (by rw [List.length_drop]; omega)
      rw [hdr] at hucr
      by_cases hof : off = 0
      · subst hof
        rw [if_pos rfl]
        rw [List.drop_zero] at hucr
        exact sim_grown (h.touched o.grp (len * i.size) (m * i.size)) hid hn (ty := ty) ht hi hz1 hzs hs0 (hucr.append hcr) hul hvl hfs hf2 (by omega) hb hm o.grp
      · rw [if_neg hof]
        exact sim_grown (h.kill o.grp) hid hn (ty := ty) ht hi hz1 hzs hs0 (hucr.append hcr) hul hvl hfs hf2 (by omega) hb hm id
  · split at ha
    · rename_i hm0
      subst hm0
      simp only [Option.some.injEq, Prod.mk.injEq] at ha
      obtain ⟨rfl, rfl⟩ := ha
      cases hs
      have hv0 : vs = [] := List.eq_nil_of_length_eq_zero (by simpa using hvl)
      subst hv0
      refine ⟨.slice none 0 0, w, σ, ?_, New.refl σ id, h, .pl _⟩
      simp [Builtin.append_, run_underlying ht, sizeOf, typeInfo, hi, Builtin.lenOf, hf1, storeCells]
    · rename_i hm0
      split at ha
      case isFalse => cases ha
      rename_i hcond
      obtain ⟨hs0, hz, hb, hm, hone⟩ := hcond
      obtain ⟨z, hz1, hzs⟩ := Option.map_eq_some_iff.1 hz
      simp only [Option.some.injEq, Prod.mk.injEq] at ha
      obtain ⟨rfl, rfl⟩ := ha
      cases hs
      have := sim_grown h hid hn (ty := ty) ht hi hz1 hzs hs0 (ba := none) (sLen := 0) (sCap := 0) (us := []) (xs := news) (by simpa using hcr) (by simp) hvl rfl hf2 (by omega) (by simpa using hb) (by simpa using hm) id
      simpa using this
  · cases ha
end
end Go.Proofs.YthjfncppiffnmaaDoor.Ra
/- What each operation comes to in the machine. -/
namespace Go.Proofs.YthjfncppiffnmaaDoor.Ra
open Go Go.RowKit
set_option linter.unusedVariables false
set_option linter.unusedSimpArgs false
section
variable {P : Program} {w0 : World} {σ : Ren} {st : St} {w : World}
theorem nums_of {xs : List AV} {vs : List Value} {ns : List Int} (h : CR σ xs vs) (hn : xs.mapM anum = some ns) : vs = ns.map (Value.int .u8) := by
  induction xs generalizing vs ns with
  | nil =>
    simp at hn
    subst hn
    exact List.eq_nil_of_length_eq_zero (by simpa using h.1.symm)
  | cons x r ih =>
    rw [List.mapM_cons] at hn
    simp only [Option.bind_eq_bind, Option.pure_def, Option.bind_eq_some_iff, Option.some.injEq] at hn
    obtain ⟨n, h1, ns', h2, rfl⟩ := hn
    have hl := h.1
    cases vs with
    | nil => simp at hl
    | cons v vr =>
      have hx := h.2 0 x v rfl rfl
      have hr : CR σ r vr := ⟨by simpa using hl, fun j x v hx hv => h.2 (j + 1) x v (by simpa using hx) (by simpa using hv)⟩
      rw [ih hr h2, List.map_cons]
      congr 1
      unfold anum at h1
      split at h1
      · cases h1; cases hx; rfl
      · cases h1
theorem sim_convert (h : Sim P w0 σ st w) {id : Nat} (hid : σ id = none) (hn : id < st.n) {src dst : TypeId} {x y : AV} {v : Value} {st' : St} (hv : VR σ x v) (ha : aconvert P st id src dst x = some (y, st')) :
    ∃ r w' σ', (convert src dst v).run P w = .ok r w' ∧ New σ σ' id ∧ Sim P w0 σ' st' w' ∧ VR σ' y r ∧ st'.n = st.n := by
  unfold aconvert at ha
  split at ha
  · rename_i d k k2 n hs hd
    simp only [Option.some.injEq, Prod.mk.injEq] at ha
    obtain ⟨rfl, rfl⟩ := ha
    cases hv
    exact ⟨_, w, σ, by simp [convert, run_underlying hs, run_underlying hd, Conv.intToInt], New.refl σ id, h, .pl _, rfl⟩
  · rename_i e s hs hd
    split at ha
    case h_2 => cases ha
    rename_i he hsz
    split at ha
    case isFalse => cases ha
    rename_i hm
    simp only [Option.some.injEq, Prod.mk.injEq] at ha
    obtain ⟨rfl, rfl⟩ := ha
    cases hv
    have hr := run_bytes_of_string (P := P) w src dst e s hs hd he
    have hge := grownCap_ge w s.size 0 e
    have hcm := grownCap_le_maxLen w s.size 0 e hm
    have htk : (bytesRow s (grownCap w s.size 0 e)).toList.take (s.data.toList.map fun b => AV.pl (.int .u8 b.toNat)).length = s.data.toList.map fun b => Value.int .u8 b.toNat := by
      rw [List.length_map]
      simp only [bytesRow, Array.toList_append, Array.toList_map]
      have hl : s.data.toList.length = (s.data.toList.map fun b => Value.int .u8 (b.toNat : Int)).length := by rw [List.length_map]
      rw [hl]
      exact List.take_left
    have hN := h.drew.new hid hn (e := e) (s := 1) hsz (xs := s.data.toList.map fun b => AV.pl (.int .u8 b.toNat)) (c := bytesRow s (grownCap w s.size 0 e)) (by
      rw [htk]
      have := CR.pls σ (s.data.toList.map fun b => Value.int .u8 (b.toNat : Int))
      rw [List.map_map] at this
      exact this) ((bytesRow s (grownCap w s.size 0 e)).size, (bytesRow s (grownCap w s.size 0 e)).size + 1) false id (fun hf => by cases hf)
    refine ⟨_, _, _, hr, New.set hid _, hN, ?_, rfl⟩
    exact .sl (σ := σ.set id _) (l := ⟨w.heap.size, 0, _, 1, false⟩) (Ren.set_at _ _ _) hge hcm (.inr rfl) (fun hf => by cases hf)
  · rename_i e i off len es hs hd
    split at ha
    case h_2 => cases ha
    rename_i o he ho
    split at ha
    case isFalse => cases ha
    rename_i hlen0
    obtain ⟨ns, hns, hyy⟩ := Option.map_eq_some_iff.1 ha
    simp only [Prod.mk.injEq] at hyy
    obtain ⟨rfl, rfl⟩ := hyy
    by_cases hz : len = 0
    · subst hz
      simp only [List.take_zero, List.mapM_nil, Option.pure_def, Option.some.injEq] at hns
      subst hns
      cases hv with
      | sl hi hc hm hq hl =>
      refine ⟨_, w, σ, ?_, New.refl σ id, h, .pl _, rfl⟩
      rw [run_convert_bytes_string w src dst e _ _ _ hs he hd, run_bytesToString w _ 0 _ [] (by simp [loadCells, loadCellsFrom])]
    rw [if_neg hz] at ho
    have hlen := hlen0.resolve_left hz
    cases hv with
    | sl hi hc hm hq hl =>
    rename_i cap q l
    obtain ⟨vs, hvl, hcr, hcell⟩ := h.range ho hi hlen
    have hvs := nums_of hcr hns
    have hload : (loadCells ⟨l.blk, q, none⟩ len).run P w = .ok (ns.map (Value.int .u8)).toArray w := by
      have := run_loadCells_list (P := P) w ⟨l.blk, q, none⟩ vs (fun j u hu => by
        have hj : j < vs.length := (List.getElem?_eq_some_iff.1 hu).1
        have : cap ≠ 0 := by
          intro e5
          obtain rfl : len = 0 := by omega
          rw [hvl] at hj
          simp at hj
        rw [add_at, hq.resolve_left this]
        exact hcell j u hu)
      rw [hvl, hvs] at this
      exact this
    refine ⟨_, w, σ, ?_, New.refl σ id, h, .pl _, rfl⟩
    rw [run_convert_bytes_string w src dst e _ _ _ hs he hd, run_bytesToString w _ len cap ns hload]
  · rename_i e q c0 hs hd
    split at ha
    case h_2 => cases ha
    rename_i he
    simp only [Option.some.injEq, Prod.mk.injEq] at ha
    obtain ⟨rfl, rfl⟩ := ha
    cases hv
    refine ⟨_, w, σ, ?_, New.refl σ id, h, .pl _, rfl⟩
    rw [run_convert_bytes_string w src dst e _ _ _ hs he hd]
    cases q with
    | none => rfl
    | some q =>
      rw [run_bytesToString w _ 0 _ [] (by simp [loadCells, loadCellsFrom])]
      rfl
  · rename_i e0 e hs hd
    split at ha
    case isFalse => cases ha
    rename_i hsd
    unfold amark at ha
    split at ha
    case h_2 => cases ha
    rename_i i off len es
    split at ha
    case h_2 => cases ha
    rename_i o he ho
    split at ha
    case isFalse => cases ha
    rename_i hown
    simp only [Option.some.injEq, Prod.mk.injEq] at ha
    obtain ⟨rfl, rfl⟩ := ha
    cases hv with
    | sl hi hc hm hq hl =>
    rename_i cap q l
    obtain ⟨l2, hl2, hob⟩ := h.obj i o ho
    rw [hi] at hl2
    cases hl2
    have hob2 := hob
    obtain ⟨h1, c1, e1, fz1, h2, h3, h4⟩ := hob2
    have hlo : l.own = true := by rw [← h1]; exact hown
    have hlt := h.lt hi
    have hget : w.heap[l.blk] = .cells c1 e1 fz1 := by
      rw [Array.getElem?_eq_getElem hlt] at h2
      exact Option.some.inj h2
    have hsh : w.shape? l.blk = some (e1, c1.size) := by
      unfold World.shape?
      rw [h2]
    have hfr : w.freeze ⟨l.blk, c1.size, none⟩ 1 = { w with heap := w.heap.modify l.blk fun | .cells c elem (lo, hi) => .cells c elem (if lo == hi then (c1.size, c1.size + 1) else (min lo c1.size, max hi (c1.size + 1))) | o => o } := by
      unfold World.freeze
      rw [if_neg (by decide)]
      rfl
    subst hsd
    obtain rfl : e0 = e := by rw [hs] at hd; cases hd; rfl
    have hrun : (convert src src (.slice (some ⟨l.blk, q, none⟩) len cap)).run P w = .ok (.slice (some ⟨l.blk, q, none⟩) len cap) (w.freeze ⟨l.blk, c1.size, none⟩ 1) := by
      simp [convert, run_underlying hs, run_underlying hd, run_underlying he, markStringish, hsh]
    refine ⟨_, _, _, hrun, New.set hid _, h.mark ho hi hlo h2 hid hn (match fz1 with | (lo, hi) => if lo == hi then (c1.size, c1.size + 1) else (min lo c1.size, max hi (c1.size + 1))) (by rw [hfr]) (by rw [hfr]) (by rw [hfr]) (by rw [hfr]; simp) ?_ ?_, ?_, rfl⟩
    · rw [hfr]
      simp only [Array.getElem?_modify, if_true, h2, Option.map_some]
    · intro k hk
      rw [hfr]
      simp only [Array.getElem?_modify]
      rw [if_neg (fun e => hk e.symm)]
    · exact .sl (l := ⟨l.blk, l.base, l.lim, l.esz, false⟩) (Ren.set_at _ _ _) hc hm hq (fun hf => by cases hf)
  · cases ha
theorem put_n (st : St) (i : Nat) (o : AObj) : (st.put i o).n = st.n := rfl
theorem kill_n (st : St) (i : Nat) : (st.kill i).n = st.n := rfl
theorem aappend_n {id : Nat} {t : TypeId} {s x y : AV} {st' : St} (ha : aappend P st id t s x = some (y, st')) : st'.n = st.n := by
  unfold aappend at ha
  repeat' split at ha
  all_goals first
    | (cases ha; done)
    | (simp only [Option.some.injEq, Prod.mk.injEq] at ha; obtain ⟨_, rfl⟩ := ha; first | rfl | (split <;> rfl))
theorem isSlice_of {d : Option TypeDesc} (h : isSliceD d = true) : ∃ e, d = some (.slice e) := by
  unfold isSliceD at h
  split at h
  · exact ⟨_, rfl⟩
  · cases h
theorem isStr_of {d : Option TypeDesc} (h : isStrD d = true) : d = some .string := by
  unfold isStrD at h
  split at h
  · rfl
  · cases h
theorem sim_builtin (h : Sim P w0 σ st w) {id : Nat} (hid : σ id = none) (hn : id < st.n) {b : Builtin} {ts : Array TypeId} {ty : TypeId} {cs : Array Bool} {xs : List AV} {vs : List Value} {y : AV} {st' : St} (hx : CR σ xs vs) (ha : abuiltin P st id b ts xs = some (y, st')) :
    ∃ r w' σ', (builtin b ts ty cs vs.toArray).run P w = .ok (.value r) w' ∧ New σ σ' id ∧ Sim P w0 σ' st' w' ∧ VR σ' y r ∧ st'.n = st.n := by
  have two : ∀ {a b : AV}, xs = [a, b] → ∃ u v, vs = [u, v] ∧ VR σ a u ∧ VR σ b v := by
    intro a b he
    subst he
    have hl := hx.1
    match vs, hl with
    | [u, v], _ => exact ⟨u, v, rfl, hx.2 0 a u rfl rfl, hx.2 1 b v rfl rfl⟩
  have one : ∀ {a : AV}, xs = [a] → ∃ u, vs = [u] ∧ VR σ a u := by
    intro a he
    subst he
    have hl := hx.1
    match vs, hl with
    | [u], _ => exact ⟨u, rfl, hx.2 0 a u rfl rfl⟩
  have len : ∀ {v : Value} {n : Nat}, vs = [v] → (∃ e q c, (ts[0]?).bind P.underlying = some (.slice e) ∧ v = .slice q n c) ∨ (∃ s : ByteArray, (ts[0]?).bind P.underlying = some .string ∧ v = .string s ∧ n = s.size) → (builtin .len ts ty cs vs.toArray).run P w = .ok (.value (.int .i64 n)) w := by
    intro v n hv hcase
    subst hv
    rcases hcase with ⟨e, q, c, h1, rfl⟩ | ⟨s, h1, rfl, rfl⟩
    · obtain ⟨t, ht, hu⟩ := Option.bind_eq_some_iff.1 h1
      simp [builtin, Builtin.len_, ht, run_underlying hu, goInt]
    · obtain ⟨t, ht, hu⟩ := Option.bind_eq_some_iff.1 h1
      simp [builtin, Builtin.len_, ht, run_underlying hu, goInt]
  unfold abuiltin at ha
  split at ha
  · obtain ⟨v0, hv0, hyy⟩ := Option.map_eq_some_iff.1 ha
    simp only [Prod.mk.injEq] at hyy
    obtain ⟨rfl, rfl⟩ := hyy
    unfold alen at hv0
    split at hv0
    · split at hv0
      case isFalse => cases hv0
      rename_i hd
      cases hv0
      obtain ⟨u, hu, hr⟩ := one rfl
      obtain ⟨e, he⟩ := isSlice_of hd
      cases hr with
      | sl hi hc hm hq hl => exact ⟨_, w, σ, len hu (.inl ⟨e, _, _, he, rfl⟩), New.refl σ id, h, .pl _, rfl⟩
    · split at hv0
      case isFalse => cases hv0
      rename_i hd
      cases hv0
      obtain ⟨u, hu, hr⟩ := one rfl
      obtain ⟨e, he⟩ := isSlice_of hd
      cases hr
      exact ⟨_, w, σ, len hu (.inl ⟨e, _, _, he, rfl⟩), New.refl σ id, h, .pl _, rfl⟩
    · split at hv0
      case isFalse => cases hv0
      rename_i hd
      cases hv0
      obtain ⟨u, hu, hr⟩ := one rfl
      cases hr
      exact ⟨_, w, σ, len hu (.inr ⟨_, isStr_of hd, rfl, rfl⟩), New.refl σ id, h, .pl _, rfl⟩
    · cases hv0
  · obtain ⟨v0, hv0, hyy⟩ := Option.map_eq_some_iff.1 ha
    simp only [Prod.mk.injEq] at hyy
    obtain ⟨rfl, rfl⟩ := hyy
    unfold amin at hv0
    split at hv0
    case h_2 => cases hv0
    cases hv0
    obtain ⟨u, v, rfl, hu, hv⟩ := two rfl
    cases hu; cases hv
    exact ⟨_, w, σ, by simp [builtin, Builtin.min_, Builtin.min2], New.refl σ id, h, .pl _, rfl⟩
  · obtain ⟨v0, hv0, hyy⟩ := Option.map_eq_some_iff.1 ha
    simp only [Prod.mk.injEq] at hyy
    obtain ⟨rfl, rfl⟩ := hyy
    unfold amax at hv0
    split at hv0
    case h_2 => cases hv0
    cases hv0
    obtain ⟨u, v, rfl, hu, hv⟩ := two rfl
    cases hu; cases hv
    exact ⟨_, w, σ, by simp [builtin, Builtin.max_, Builtin.max2], New.refl σ id, h, .pl _, rfl⟩
  · split at ha
    case h_2 => cases ha
    split at ha
    case isFalse => cases ha
    rename_i hts
    obtain ⟨u, v, rfl, hu, hv⟩ := two rfl
    obtain ⟨r, w', σ', hr, hN, hS, hV⟩ := sim_append h hid hn (ty := ty) hu hv ha
    refine ⟨r, w', σ', ?_, hN, hS, hV, aappend_n ha⟩
    rw [hts]
    simp only [builtin, Sem.run_bind, hr, Result.andThen_ok, Sem.run_pure]
  · cases ha
theorem sim_opt {fr : AFr} {a : Act} (hF : FR σ fr a) (o : Option Operand) : (∀ x, o.map (aeval fr) = some x → ∃ v, o.map a.eval = some v ∧ VR σ x v) ∧ (o.map (aeval fr) = none → o.map a.eval = none) := by
  cases o with
  | none => exact ⟨fun x hx => by simp at hx, fun _ => rfl⟩
  | some p => exact ⟨fun x hx => by simp only [Option.map_some, Option.some.injEq] at hx; subst hx; exact ⟨_, rfl, hF.eval p⟩, fun hx => by simp at hx⟩
theorem CR.map {fr : AFr} {a : Act} (hF : FR σ fr a) (l : List Operand) : CR σ (l.map (aeval fr)) (l.map a.eval) := ⟨by simp, fun j x v hx hv => by
  rw [List.getElem?_map] at hx hv
  obtain ⟨p, hp, rfl⟩ := Option.map_eq_some_iff.1 hx
  rw [hp] at hv
  simp only [Option.map_some, Option.some.injEq] at hv
  subst hv
  exact hF.eval p⟩
/-- An operation that is no call of a function. -/
theorem aop_run (h : Sim P w0 σ st w) {id : Nat} (hid : σ id = none) (hn : id < st.n) {fr : AFr} {a : Act} (hF : FR σ fr a) {call : ACall} {o : Oper} {y : AV} {st' : St} (hnc : ∀ c f, o.op = .call c → c.callee ≠ .value f) (ha : aop P call id o fr st = some (y, st')) :
    ∃ r v w' σ', (execOp a.eval o).run P w = r ∧ (r = .ok (.value v) w' ∨ (r = .ok .skip w' ∧ v = undef)) ∧ New σ σ' id ∧ Sim P w0 σ' st' w' ∧ VR σ' y v ∧ st'.n = st.n := by
  unfold aop at ha
  split at ha
  · rename_i x ho
    simp only [Option.some.injEq, Prod.mk.injEq] at ha
    obtain ⟨rfl, rfl⟩ := ha
    exact ⟨_, _, w, σ, by simp only [execOp, ho]; rfl, .inl rfl, New.refl σ id, h, hF.eval x, rfl⟩
  · rename_i x ho
    simp only [Option.some.injEq, Prod.mk.injEq] at ha
    obtain ⟨rfl, rfl⟩ := ha
    exact ⟨_, _, w, σ, by simp only [execOp, ho]; rfl, .inl rfl, New.refl σ id, h, hF.eval x, rfl⟩
  · rename_i c p q ho
    split at ha
    case h_2 => cases ha
    rename_i t hc
    simp only [Option.some.injEq, Prod.mk.injEq] at ha
    obtain ⟨rfl, rfl⟩ := ha
    have he := hF.eval c
    rw [hc] at he
    generalize hcv : a.eval c = cv at he
    cases he
    refine ⟨_, if t then a.eval p else a.eval q, w, σ, by simp only [execOp, ho, hcv]; rfl, .inl rfl, New.refl σ id, h, ?_, rfl⟩
    cases t
    · exact hF.eval q
    · exact hF.eval p
  · rename_i e ho
    split at ha
    case h_2 => cases ha
    rename_i cs s hz hs
    simp only [Option.some.injEq, Prod.mk.injEq] at ha
    obtain ⟨rfl, rfl⟩ := ha
    obtain ⟨r, w', σ', hr, hN, hS, hV⟩ := sim_alloc h hid hn hs hz
    exact ⟨_, r, w', σ', by simp only [execOp, ho, Sem.run_bind, hr, Result.andThen_ok, Sem.run_pure], .inl rfl, hN, hS, hV, rfl⟩
  · rename_i e x ho
    split at ha
    case h_2 => cases ha
    rename_i s hs
    split at ha
    case isFalse => cases ha
    rename_i hsol
    simp only [Option.some.injEq, Prod.mk.injEq] at ha
    obtain ⟨rfl, rfl⟩ := ha
    obtain ⟨r, w', σ', hr, hN, hS, hV⟩ := sim_box h hid hn hs (hF.eval x) hsol
    exact ⟨_, r, w', σ', by simp only [execOp, ho, Sem.run_bind, hr, Result.andThen_ok, Sem.run_pure], .inl rfl, hN, hS, hV, rfl⟩
  · rename_i t ps ho
    obtain ⟨v, hv, hyy⟩ := Option.map_eq_some_iff.1 ha
    simp only [Prod.mk.injEq] at hyy
    obtain ⟨rfl, rfl⟩ := hyy
    unfold abuild at hv
    split at hv
    case h_2 => cases hv
    rename_i fs z ht hz
    split at hv
    case isFalse => cases hv
    rename_i hall
    obtain ⟨cs, hcs, rfl⟩ := Option.map_eq_some_iff.1 hv
    obtain ⟨r, hr, hV⟩ := sim_build hF ht hz hall hcs w
    exact ⟨_, r, w, σ, by simp only [execOp, ho, Sem.run_bind, hr, Result.andThen_ok, Sem.run_pure], .inl rfl, New.refl σ id, h, hV, rfl⟩
  · rename_i t len ps ho
    obtain ⟨v, hv, hyy⟩ := Option.map_eq_some_iff.1 ha
    simp only [Prod.mk.injEq] at hyy
    obtain ⟨rfl, rfl⟩ := hyy
    unfold abuildSlice at hv
    split at hv
    case h_2 => cases hv
    rename_i e ht
    split at hv
    case h_2 => cases hv
    rename_i s z hs hz
    split at hv
    case isFalse => cases hv
    rename_i hcond
    obtain ⟨c1, c2, c3, c4⟩ := hcond
    obtain ⟨cs, hcs, rfl⟩ := Option.map_eq_some_iff.1 hv
    obtain ⟨r, w', σ', hr, hN, hS, hV⟩ := sim_buildSlice h hid hn hF ht hs hz c1 c2 c3 c4 hcs
    exact ⟨_, r, w', σ', by simp only [execOp, ho, Sem.run_bind, hr, Result.andThen_ok, Sem.run_pure], .inl rfl, hN, hS, hV, rfl⟩
  · rename_i t l c ho
    obtain ⟨v, hv, hyy⟩ := Option.map_eq_some_iff.1 ha
    simp only [Prod.mk.injEq] at hyy
    obtain ⟨rfl, rfl⟩ := hyy
    unfold amakeSlice at hv
    split at hv
    case h_2 => cases hv
    rename_i e k n k2 m ht hl hc
    split at hv
    case h_2 => cases hv
    rename_i i hi
    split at hv
    case h_2 => cases hv
    rename_i z hz
    split at hv
    case isFalse => cases hv
    rename_i hcond
    obtain ⟨c0, rfl, c1, c2, c3⟩ := hcond
    simp only [Option.some.injEq] at hv
    subst hv
    have h1 := hF.eval l
    have h2 := hF.eval c
    rw [hl] at h1
    rw [hc] at h2
    generalize hlv : a.eval l = lv at h1
    generalize hcv : a.eval c = cv at h2
    cases h1; cases h2
    obtain ⟨r, w', σ', hr, hN, hS, hV⟩ := sim_makeSlice h hid hn (kl := k) (kc := k2) ht hi hz c0 c1 c2 c3
    exact ⟨_, r, w', σ', by simp only [execOp, ho, hlv, hcv, Sem.run_bind, hr, Result.andThen_ok, Sem.run_pure], .inl rfl, hN, hS, hV, rfl⟩
  · rename_i t x ho
    obtain ⟨v, hv, hyy⟩ := Option.map_eq_some_iff.1 ha
    simp only [Prod.mk.injEq] at hyy
    obtain ⟨rfl, rfl⟩ := hyy
    obtain ⟨u, hu, hV⟩ := sim_load h (hF.eval x) hv
    exact ⟨_, u, w, σ, by simp only [execOp, ho, Sem.run_bind, hu, Result.andThen_ok, Sem.run_pure], .inl rfl, New.refl σ id, h, hV, rfl⟩
  · rename_i t x v ho
    obtain ⟨st2, hst, hyy⟩ := Option.map_eq_some_iff.1 ha
    simp only [Prod.mk.injEq] at hyy
    obtain ⟨rfl, rfl⟩ := hyy
    obtain ⟨w', hw, hS⟩ := sim_store h (hF.eval x) (hF.eval v) hst
    refine ⟨_, undef, w', σ, by simp only [execOp, ho, Sem.run_bind, hw, Result.andThen_ok, Sem.run_pure], .inr ⟨rfl, rfl⟩, New.refl σ id, hS, .pl _, ?_⟩
    unfold astore at hst
    repeat' split at hst
    all_goals first
      | (cases hst; done)
      | (simp only [Option.some.injEq] at hst; rw [← hst]; rfl)
  · rename_i x ho
    split at ha
    · rename_i i off hx
      simp only [Option.some.injEq, Prod.mk.injEq] at ha
      obtain ⟨rfl, rfl⟩ := ha
      have h1 := hF.eval x
      rw [hx] at h1
      generalize hxv : a.eval x = xv at h1
      cases h1 with
      | ptr hi => exact ⟨_, _, w, σ, by simp only [execOp, ho, hxv]; rfl, .inl rfl, New.refl σ id, h, .ptr hi, rfl⟩
    · rename_i f cs hx
      simp only [Option.some.injEq, Prod.mk.injEq] at ha
      obtain ⟨rfl, rfl⟩ := ha
      have h1 := hF.eval x
      rw [hx] at h1
      generalize hxv : a.eval x = xv at h1
      cases h1 with
      | fn hn hh => exact ⟨_, _, w, σ, by simp only [execOp, ho, hxv]; rfl, .inl rfl, New.refl σ id, h, .fn hn hh, rfl⟩
    · cases ha
  · rename_i op t x y' ty ho
    obtain ⟨v, hv, hyy⟩ := Option.map_eq_some_iff.1 ha
    simp only [Prod.mk.injEq] at hyy
    obtain ⟨rfl, rfl⟩ := hyy
    have hr := sim_bin (ox := x) (oy := y') (hF.eval x) (hF.eval y') hv w
    exact ⟨_, v, w, σ, by simp only [execOp, ho, Sem.run_bind] at hr ⊢; simp only [hr, Result.andThen_ok, Sem.run_pure], .inl rfl, New.refl σ id, h, .pl _, rfl⟩
  · rename_i op ty x ho
    obtain ⟨v, hv, hyy⟩ := Option.map_eq_some_iff.1 ha
    simp only [Prod.mk.injEq] at hyy
    obtain ⟨rfl, rfl⟩ := hyy
    have hr := sim_un (P := P) (hF.eval x) hv w
    exact ⟨_, v, w, σ, by simp only [execOp, ho, Sem.run_bind, hr, Result.andThen_ok, Sem.run_pure], .inl rfl, New.refl σ id, h, .pl _, rfl⟩
  · rename_i src dst x ho
    obtain ⟨r, w', σ', hr, hN, hS, hV, hnn⟩ := sim_convert h hid hn (hF.eval x) ha
    exact ⟨_, r, w', σ', by simp only [execOp, ho, Sem.run_bind, hr, Result.andThen_ok, Sem.run_pure], .inl rfl, hN, hS, hV, hnn⟩
  · rename_i t x lo hi mx ho
    split at ha
    case isFalse => cases ha
    rename_i hmx
    obtain ⟨v, hv, hyy⟩ := Option.map_eq_some_iff.1 ha
    simp only [Prod.mk.injEq] at hyy
    obtain ⟨rfl, rfl⟩ := hyy
    obtain rfl : mx = none := by simpa using hmx
    obtain ⟨l1, l2⟩ := sim_opt hF lo
    obtain ⟨h1, h2⟩ := sim_opt hF hi
    obtain ⟨r, hr, hV⟩ := sim_slice (P := P) (w := w) (hF.eval x) l1 l2 h1 h2 hv
    exact ⟨_, r, w, σ, by simp only [execOp, ho, Sem.run_bind, Option.map_none, hr, Result.andThen_ok, Sem.run_pure], .inl rfl, New.refl σ id, h, hV, rfl⟩
  · rename_i t x f ho
    obtain ⟨v, hv, hyy⟩ := Option.map_eq_some_iff.1 ha
    simp only [Prod.mk.injEq] at hyy
    obtain ⟨rfl, rfl⟩ := hyy
    obtain ⟨r, hr, hV⟩ := sim_fieldAddr (P := P) (w := w) (hF.eval x) hv
    exact ⟨_, r, w, σ, by simp only [execOp, ho, Sem.run_bind, hr, Result.andThen_ok, Sem.run_pure], .inl rfl, New.refl σ id, h, hV, rfl⟩
  · rename_i t x f ho
    split at ha
    case h_2 => cases ha
    rename_i fs xs ht hx
    split at ha
    case h_2 => cases ha
    rename_i fd hfd
    obtain ⟨v, hv, hyy⟩ := Option.map_eq_some_iff.1 ha
    simp only [Prod.mk.injEq] at hyy
    obtain ⟨rfl, rfl⟩ := hyy
    have h1 := hF.eval x
    rw [hx] at h1
    generalize hxv : a.eval x = xv at h1
    cases h1 with
    | agg hl hh =>
    rename_i vs
    have hcr : CR σ xs vs.toList := ⟨by simpa using hl, fun j x v hx hv => hh j x v hx (by simpa using hv)⟩
    unfold apart_ at hv
    split at hv
    case h_2 => cases hv
    rename_i d s hd hs
    split at hv
    · rename_i hag
      cases hv
      have hk := (hcr.drop fd.offset).take s
      refine ⟨_, .agg (vs.extract fd.offset (fd.offset + s)), w, σ, ?_, .inl rfl, New.refl σ id, h, .agg ?_ ?_, rfl⟩
      · simp only [execOp, ho, hxv, Instr.field, Sem.run_bind, run_underlying ht, Result.andThen_ok, hfd, asAgg, Sem.run_pure, part, agg_run hd, hag, if_true, sz_run hs]
      · have := hk.1
        rw [this]
        simp
        omega
      · intro j x v hx hv
        refine hk.2 j x v hx ?_
        rw [← hv, Array.getElem?_extract]
        rw [List.getElem?_take, List.getElem?_drop]
        simp only [Array.getElem?_toList]
        by_cases hj : j < s
        · rw [if_pos hj]
          by_cases hj2 : fd.offset + j < vs.size
          · rw [if_pos (by omega)]
          · rw [if_neg (by omega)]
            exact Array.getElem?_eq_none (by omega)
        · rw [if_neg hj, if_neg (by omega)]
    · rename_i hag
      obtain ⟨u, hu, hr⟩ := hcr.at hv
      refine ⟨_, u, w, σ, ?_, .inl rfl, New.refl σ id, h, hr, rfl⟩
      have hag2 : aggD d = false := by simpa using hag
      have hu2 : vs[fd.offset]? = some u := by simpa using hu
      simp only [execOp, ho, hxv, Instr.field, Sem.run_bind, run_underlying ht, Result.andThen_ok, hfd, asAgg, Sem.run_pure, part, agg_run hd, hag2, Bool.false_eq_true, if_false, hu2]
  · rename_i t x ix ho
    obtain ⟨v, hv, hyy⟩ := Option.map_eq_some_iff.1 ha
    simp only [Prod.mk.injEq] at hyy
    obtain ⟨rfl, rfl⟩ := hyy
    obtain ⟨r, hr, hV⟩ := sim_indexAddr (P := P) (w := w) (hF.eval x) (hF.eval ix) hv
    exact ⟨_, r, w, σ, by simp only [execOp, ho, Sem.run_bind, hr, Result.andThen_ok, Sem.run_pure], .inl rfl, New.refl σ id, h, hV, rfl⟩
  · rename_i t x ix ho
    obtain ⟨v, hv, hyy⟩ := Option.map_eq_some_iff.1 ha
    simp only [Prod.mk.injEq] at hyy
    obtain ⟨rfl, rfl⟩ := hyy
    unfold aindex at hv
    split at hv
    case h_2 => cases hv
    rename_i s k n ht hx hix
    split at hv
    case isFalse => cases hv
    rename_i h0
    obtain ⟨b, hb, rfl⟩ := Option.map_eq_some_iff.1 hv
    have h1 := hF.eval x
    have h2 := hF.eval ix
    rw [hx] at h1
    rw [hix] at h2
    generalize hxv : a.eval x = xv at h1
    generalize hiv : a.eval ix = iv at h2
    cases h1; cases h2
    exact ⟨_, _, w, σ, by simp only [execOp, ho, hxv, hiv, Instr.index, asIntOf, Sem.run_bind, Sem.run_pure, Result.andThen_ok, run_underlying ht, h0, if_true, hb], .inl rfl, New.refl σ id, h, .pl _, rfl⟩
  · rename_i x ix ho
    split at ha
    case h_2 => cases ha
    rename_i xs hx
    obtain ⟨v, hv, hyy⟩ := Option.map_eq_some_iff.1 ha
    simp only [Prod.mk.injEq] at hyy
    obtain ⟨rfl, rfl⟩ := hyy
    have h1 := hF.eval x
    rw [hx] at h1
    generalize hxv : a.eval x = xv at h1
    cases h1 with
    | tup hl hh =>
    rename_i vs
    have hj : ix < vs.size := by rw [← hl]; exact (List.getElem?_eq_some_iff.1 hv).1
    refine ⟨_, vs[ix], w, σ, ?_, .inl rfl, New.refl σ id, h, hh ix v _ hv (Array.getElem?_eq_getElem hj), rfl⟩
    simp only [execOp, ho, hxv, Instr.extract, Sem.run_bind, Array.getElem?_eq_getElem hj, Sem.run_pure, Result.andThen_ok]
  · rename_i f first captured ho
    split at ha
    case isFalse => cases ha
    rename_i hfi
    simp only [Option.some.injEq, Prod.mk.injEq] at ha
    obtain ⟨rfl, rfl⟩ := ha
    obtain rfl : first = #[] := by simpa using hfi
    have hcr := CR.map hF captured.toList
    refine ⟨_, .func (.func f) #[] (captured.map a.eval), w, σ, ?_, .inl rfl, New.refl σ id, h, .fn (by simp) (fun j x v hx hv => hcr.2 j x v hx (by simpa using hv)), rfl⟩
    simp only [execOp, ho, Instr.makeFunc, Sem.run_bind, Sem.run_pure, Result.andThen_ok, Array.map_empty]
  · rename_i c ho
    split at ha
    · rename_i b hb
      have hcr := CR.map hF c.args.toList
      obtain ⟨r, w', σ', hr, hN, hS, hV, hnn⟩ := sim_builtin h hid hn (ty := o.type) (cs := c.args.map fun | .const _ => true | _ => false) hcr ha
      refine ⟨_, r, w', σ', ?_, .inl rfl, hN, hS, hV, hnn⟩
      have e : (c.args.toList.map a.eval).toArray = c.args.map a.eval := by
        apply Array.toList_inj.1
        simp
      rw [e] at hr
      simp only [execOp, ho, resolve, hb, Sem.run_bind, Sem.run_pure, Result.andThen_ok, invoke]
      exact hr
    · rename_i f hf
      exact absurd hf (hnc c f ho)
    · cases ha
  · cases ha
end
end Go.Proofs.YthjfncppiffnmaaDoor.Ra
/- Regions: in the text's order, and in any order that the machine may draw. -/
namespace Go.Proofs.YthjfncppiffnmaaDoor.Ra
open Go Go.RowKit
set_option linter.unusedVariables false
set_option linter.unusedSimpArgs false

/-- What had a name before stays as it is, and what was no name is none. -/
structure Steady (st s : St) : Prop where
  n : st.n ≤ s.n
  old : ∀ k, k < st.n → s.get k = st.get k
  get : ∀ k o, st.get k = some o → s.get k = some o
def isCall : Op → Bool
  | .call c => match c.callee with
    | .value _ => true
    | _ => false
  | _ => false
/-- An append to nil: it makes what is new. -/
def nilApp (c : Call) : Bool := match c.callee, c.args.toList with
  | .builtin .append, [.const (.slice none 0 0), _] => true
  | _, _ => false
/-- How much of the store an operation meets: nothing; it reads; it makes what is new; anything. -/
def eff (P : Program) : Op → Nat
  | .move _ | .assign _ | .pick .. | .build .. | .nilCheck _ | .binOp .. | .unOp .. | .slice .. | .fieldAddr .. | .field .. | .indexAddr .. | .index .. | .extract .. | .makeFunc .. => 0
  | .load .. => 1
  | .convert src dst _ => match P.underlying dst with
    | some (.int _) => 0
    | some .string => 1
    | _ => if src = dst then 3 else 2
  | .alloc _ | .box .. | .buildSlice .. | .makeSlice .. => 2
  | .call c => match c.callee with
    | .builtin .len | .builtin .min | .builtin .max => 0
    | .builtin .append => if nilApp c then 2 else 3
    | _ => 3
  | _ => 3
/-- Is j always drawn ahead of i? -/
def ahead (ops : Array Oper) : Nat → Nat → Nat → Bool
  | 0, _, _ => false
  | k + 1, j, i => match ops[i]? with
    | some oi => oi.after.any fun e => Region.binds .any e && (e.on == j || ahead ops k j e.on)
    | none => false
/-- Is there a load that may come ahead of i or behind it? -/
def must (P : Program) (ops : Array Oper) (i : Nat) : Bool := (List.range ops.size).any fun j => match ops[j]? with
  | some o => eff P o.op == 1 && !ahead ops 8 j i && !ahead ops 8 i j
  | none => false
/-- A strict region asks of each call that it leaves the elder store as it is. -/
def Fine (sd m : Bool) (o : Oper) (y : AV) (st s : St) : Prop := y.solid = true ∧ (sd = true → m = true → isCall o.op = true → Steady st s)
noncomputable def astep (P : Program) (call : ACall) (sd : Bool) (ops : Array Oper) (n0 i : Nat) (fr : AFr) (st : St) : Option (AFr × St) :=
  match ops[i]? with
  | none => none
  | some o => if awanted ops fr o then
      match aop P call (n0 + i) o fr st with
      | some (y, s) => @ite _ (Fine sd (must P ops i) o y st s) (Classical.propDecidable _) (some (aput fr o.dst y, s)) none
      | none => none
    else some (aput fr o.dst (.pl undef), st)
theorem wanted_step {P : Program} {call : ACall} {sd : Bool} {ops : Array Oper} {n0 i : Nat} {o : Oper} (ho : ops[i]? = some o) {fr fr1 : AFr} {st st1 : St} (cw : awanted ops fr o = true) :
    astep P call sd ops n0 i fr st = some (fr1, st1) ↔ ∃ y, aop P call (n0 + i) o fr st = some (y, st1) ∧ Fine sd (must P ops i) o y st st1 ∧ aput fr o.dst y = fr1 := by
  unfold astep
  simp only [ho, cw, if_true]
  constructor
  · intro h
    split at h
    · rename_i y s hy
      split at h
      · rename_i hs
        simp only [Option.some.injEq, Prod.mk.injEq] at h
        obtain ⟨h1, rfl⟩ := h
        exact ⟨y, hy, hs, h1⟩
      · cases h
    · cases h
  · rintro ⟨y, h1, h2, h3⟩
    simp only [h1, h3]
    exact if_pos h2
theorem unwanted_step {P : Program} {call : ACall} {sd : Bool} {ops : Array Oper} {n0 i : Nat} {o : Oper} (ho : ops[i]? = some o) {fr : AFr} {st : St} (cw : ¬ awanted ops fr o = true) :
    astep P call sd ops n0 i fr st = some (aput fr o.dst (.pl undef), st) := by
  unfold astep
  simp only [ho]
  rw [if_neg cw]
noncomputable def arun (P : Program) (call : ACall) (sd : Bool) (ops : Array Oper) (n0 : Nat) : List Nat → AFr → St → Option (AFr × St)
  | [], fr, st => some (fr, st)
  | i :: is, fr, st => (astep P call sd ops n0 i fr st).bind fun r => arun P call sd ops n0 is r.1 r.2
def areads (P : Program) (fr : AFr) : Op → List Nat
  | .load _ x => match aeval fr x with | .ptr i _ => [i] | .pl (.pointer (some ⟨i, _, none⟩)) => if i < P.globals.size then [i] else [] | _ => []
  | .convert _ _ x => match aeval fr x with | .sl i _ n _ => if n = 0 then [] else [i] | _ => []
  | .call c => match c.args.toList with
    | [_, x] => match aeval fr x with | .sl i _ n _ => if n = 0 then [] else [i] | _ => []
    | _ => []
  | _ => []
def commPair (P : Program) (sd : Bool) (ops : Array Oper) (j i : Nat) : Bool :=
  match ops[j]?, ops[i]? with
  | some oj, some oi => ahead ops 8 j i || (oj.apart ops oi && (eff P oi.op == 0 || eff P oj.op == 0 || (decide (eff P oi.op ≤ 2) && decide (eff P oj.op ≤ 2)) || (sd && ((isCall oi.op && (must P ops i && eff P oj.op == 1)) || (isCall oj.op && (must P ops j && eff P oi.op == 1))))))
  | _, _ => false
def commOK (P : Program) (sd : Bool) (ops : Array Oper) : Bool :=
  (List.range ops.size).all fun i => ((ops[i]?).map fun o => o.after.all fun e => !Region.binds .any e || decide (e.on < i)).getD false && (List.range i).all fun j => commPair P sd ops j i
/-- Is the region a strict one? -/
def sdOf (P : Program) (ops : Array Oper) (draw : Bool) : Bool := draw && !commOK P false ops
noncomputable def aregion (P : Program) (call : ACall) (ops : Array Oper) (draw : Bool) (fr : AFr) (st : St) : Option (AFr × St) :=
  if draw && !(commOK P (sdOf P ops draw) ops && P.follows .mixedOrders) then none else arun P call (sdOf P ops draw) ops st.n (List.range ops.size) fr (st.bump ops.size)
theorem isCall_eff {P : Program} {o : Op} (h : isCall o = true) : eff P o = 3 := by
  cases o with
  | call c =>
    obtain ⟨callee, args, ats⟩ := c
    cases callee with
    | value f => rfl
    | _ => cases h
  | _ => cases h

theorem aeval_put {fr : AFr} {d : Option Tmp} {v : AV} {x : Operand} (h : ∀ t, d = some t → x ≠ .tmp t) : aeval (aput fr d v) x = aeval fr x := by
  cases d with
  | none => rfl
  | some d =>
    cases x with
    | tmp t =>
      have : t ≠ d := fun e => h d rfl (by rw [e])
      simp [aeval, aput, this]
    | _ => rfl
theorem aop_congr {P : Program} {call : ACall} {id : Nat} {o : Oper} {fr fr' : AFr} {st : St} (h : ∀ x ∈ o.op.operands, aeval fr x = aeval fr' x) : aop P call id o fr st = aop P call id o fr' st := by
  obtain ⟨dst, op, type, pos, after, guard⟩ := o
  have pairs : ∀ ps : Array (Nat × Operand), (∀ x ∈ (ps.toList.map (·.2)), aeval fr x = aeval fr' x) → (ps.toList.map fun p => (p.1, aeval fr p.2)) = (ps.toList.map fun p => (p.1, aeval fr' p.2)) := fun ps hp =>
    List.map_congr_left fun p hm => by rw [hp p.2 (List.mem_map.2 ⟨p, hm, rfl⟩)]
  have lists : ∀ xs : Array Operand, (∀ x ∈ xs, aeval fr x = aeval fr' x) → xs.toList.map (aeval fr) = xs.toList.map (aeval fr') := fun xs hp =>
    List.map_congr_left fun p hm => hp p (Array.mem_toList_iff.1 hm)
  cases op <;> simp only [Op.operands] at h <;> simp only [aop]
  case build t ps => rw [pairs ps fun x hx => h x (by simpa using hx)]
  case buildSlice t n ps => rw [pairs ps fun x hx => h x (by simpa using hx)]
  case makeFunc fn first captured =>
    cases fn <;> simp only
    rw [lists captured fun x hx => h x (by simp [hx])]
  case call c =>
    have ha := lists c.args fun x hx => h x (by simp [Call.operands, hx])
    cases hc : c.callee with
    | value f => have hf : aeval fr f = aeval fr' f := h f (by simp [Call.operands, hc]); simp only [hf, ha]
    | invoke r m => rfl
    | builtin b => simp only [ha]
  case slice t x lo hi mx => cases lo <;> cases hi <;> cases mx <;> simp_all
  all_goals (first | rfl | (simp_all; done))
theorem aop_put {P : Program} {call : ACall} {ops : Array Oper} {id : Nat} {o : Oper} {fr : AFr} {st : St} {d : Option Tmp} {v : AV} (h : ∀ t, d = some t → t ∉ o.looksAt ops) : aop P call id o (aput fr d v) st = aop P call id o fr st :=
  aop_congr fun x hx => aeval_put fun t ht e => h t ht (by
    subst e
    exact List.mem_append_left _ (List.mem_filterMap.2 ⟨.tmp t, by simpa using hx, rfl⟩))
theorem areads_put {P : Program} {ops : Array Oper} {o : Oper} {fr : AFr} {d : Option Tmp} {v : AV} (h : ∀ t, d = some t → t ∉ o.looksAt ops) : areads P (aput fr d v) o.op = areads P fr o.op := by
  have key : ∀ x ∈ o.op.operands, aeval (aput fr d v) x = aeval fr x := fun x hx => aeval_put fun t ht e => h t ht (by
    subst e
    exact List.mem_append_left _ (List.mem_filterMap.2 ⟨.tmp t, by simpa using hx, rfl⟩))
  cases hop : o.op with
  | load t x => simp only [areads]; rw [key x (by simp [hop, Op.operands])]
  | convert a b x => simp only [areads]; rw [key x (by simp [hop, Op.operands])]
  | call c =>
    simp only [areads]
    split
    · rename_i q x hq
      rw [key x (by simp only [hop, Op.operands, Call.operands]; simp [← Array.mem_toList_iff, hq])]
    · rfl
  | _ => rfl
theorem awanted_put {ops : Array Oper} {o : Oper} {fr : AFr} {d : Option Tmp} {v : AV} (h : ∀ t, d = some t → t ∉ o.looksAt ops) : awanted ops (aput fr d v) o = awanted ops fr o := by
  unfold awanted
  cases hg : o.guard with
  | none => rfl
  | some gw =>
    obtain ⟨g, want⟩ := gw
    cases ht : (ops[g]?).bind (·.dst) with
    | none => simp only [ht]
    | some t =>
      simp only [ht]
      cases d with
      | none => rfl
      | some d =>
        have : t ≠ d := fun e => h d rfl (by subst e; simp [Oper.looksAt, hg, ht])
        simp [aput, this]
theorem aput_comm (fr : AFr) {x y : Option Tmp} (v u : AV) (h : ∀ d, x = some d → y ≠ some d) : aput (aput fr x v) y u = aput (aput fr y u) x v := by
  cases x with
  | none => rfl
  | some d =>
    cases y with
    | none => rfl
    | some e =>
      have hne : d ≠ e := fun he => h d rfl (he ▸ rfl)
      funext t
      by_cases h1 : t = d
      · subst h1; simp [aput, hne]
      · by_cases h2 : t = e
        · subst h2; simp [aput, h1]
        · simp [aput, h1, h2]
theorem put_comm_st (st : St) {i j : Nat} (o o' : AObj) (h : i ≠ j) : (st.put i o).put j o' = (st.put j o').put i o := by
  simp only [St.put, St.mk.injEq, true_and]
  funext k
  by_cases h1 : k = i
  · subst h1; simp [h]
  · simp [h1]
/-- An operation that does no more than read or make. -/
theorem aop_light {P : Program} {call : ACall} {id : Nat} {o : Oper} {fr : AFr} {st st' : St} {y : AV} (he : eff P o.op ≤ 2) (h : aop P call id o fr st = some (y, st')) :
    ∃ f : St → St, (f = (fun s => s) ∨ (eff P o.op = 2 ∧ ∃ ob, f = fun s => s.put id ob)) ∧ st' = f st ∧ (eff P o.op ≠ 0 → ∀ k ∈ areads P fr o.op, st.get k ≠ none) ∧
      ∀ st2, (eff P o.op ≠ 0 → ∀ k ∈ areads P fr o.op, st2.get k = st.get k) → aop P call id o fr st2 = some (y, f st2) := by
  have quiet : ∀ (z : Option AV), eff P o.op = 0 → (∀ s, aop P call id o fr s = z.map fun v => (v, s)) → ∃ f : St → St, (f = (fun s => s) ∨ (eff P o.op = 2 ∧ ∃ ob, f = fun s => s.put id ob)) ∧ st' = f st ∧ (eff P o.op ≠ 0 → ∀ k ∈ areads P fr o.op, st.get k ≠ none) ∧
      ∀ st2, (eff P o.op ≠ 0 → ∀ k ∈ areads P fr o.op, st2.get k = st.get k) → aop P call id o fr st2 = some (y, f st2) := by
    intro z h0 hz
    rw [hz] at h
    obtain ⟨v, rfl, hv⟩ := Option.map_eq_some_iff.1 h
    simp only [Prod.mk.injEq] at hv
    obtain ⟨rfl, rfl⟩ := hv
    exact ⟨fun s => s, .inl rfl, rfl, fun h1 => absurd h0 h1, fun st2 _ => by rw [hz]; rfl⟩
  have made : ∀ (z : Option (AV × AObj)), eff P o.op = 2 → areads P fr o.op = [] → (∀ s, aop P call id o fr s = z.map fun v => (v.1, s.put id v.2)) → ∃ f : St → St, (f = (fun s => s) ∨ (eff P o.op = 2 ∧ ∃ ob, f = fun s => s.put id ob)) ∧ st' = f st ∧ (eff P o.op ≠ 0 → ∀ k ∈ areads P fr o.op, st.get k ≠ none) ∧
      ∀ st2, (eff P o.op ≠ 0 → ∀ k ∈ areads P fr o.op, st2.get k = st.get k) → aop P call id o fr st2 = some (y, f st2) := by
    intro z h0 hr hz
    rw [hz] at h
    obtain ⟨v, rfl, hv⟩ := Option.map_eq_some_iff.1 h
    simp only [Prod.mk.injEq] at hv
    obtain ⟨rfl, rfl⟩ := hv
    exact ⟨fun s => s.put id v.2, .inr ⟨h0, v.2, rfl⟩, rfl, fun h1 k hk => (by rw [hr] at hk; cases hk), fun st2 _ => by rw [hz]; rfl⟩
  obtain ⟨dst, op, type, pos, after, guard⟩ := o
  cases op with
  | move x => exact quiet (some (aeval fr x)) rfl fun s => rfl
  | assign x => exact quiet (some (aeval fr x)) rfl fun s => rfl
  | pick c a b =>
    refine quiet (match aeval fr c with | .pl (.bool t) => some (if t then aeval fr a else aeval fr b) | _ => none) rfl fun s => ?_
    simp only [aop]
    repeat' split
    all_goals first | rfl | (simp only [Option.map_map]; rfl) | (simp_all; done) | (simp_all [Function.comp_def]; done) | (simp_all; rfl)
  | nilCheck x =>
    refine quiet (match aeval fr x with | .ptr i off => some (.ptr i off) | .fn f cs => some (.fn f cs) | _ => none) rfl fun s => ?_
    simp only [aop]
    repeat' split
    all_goals first | rfl | (simp only [Option.map_map]; rfl) | (simp_all; done) | (simp_all [Function.comp_def]; done) | (simp_all; rfl)
  | binOp b t x z ty => exact quiet ((abin P b t (aeval fr x) (aeval fr z)).map .pl) rfl fun s => by simp only [aop, Option.map_map]; rfl
  | unOp b t x => exact quiet ((aun b (aeval fr x)).map .pl) rfl fun s => by simp only [aop, Option.map_map]; rfl
  | slice t x lo hi mx =>
    refine quiet (if mx.isNone then aslice P t (aeval fr x) (lo.map (aeval fr)) (hi.map (aeval fr)) else none) rfl fun s => ?_
    simp only [aop]
    repeat' split
    all_goals first | rfl | (simp only [Option.map_map]; rfl) | (simp_all; done) | (simp_all [Function.comp_def]; done) | (simp_all; rfl)
  | fieldAddr t x f => exact quiet (afieldAddr P t (aeval fr x) f) rfl fun s => rfl
  | indexAddr t x ix => exact quiet (aindexAddr P t (aeval fr x) (aeval fr ix)) rfl fun s => rfl
  | field t x f =>
    refine quiet (match P.underlying t, aeval fr x with
      | some (.struct fs), .agg xs => match fs[f]? with
        | some fd => apart_ P fd.type xs fd.offset
        | none => none
      | _, _ => none) rfl fun s => ?_
    simp only [aop]
    repeat' split
    all_goals first | rfl | (simp only [Option.map_map]; rfl) | (simp_all; done) | (simp_all [Function.comp_def]; done) | (simp_all; rfl)
  | index t x ix => exact quiet (aindex P t (aeval fr x) (aeval fr ix)) rfl fun s => rfl
  | extract x ix =>
    refine quiet (match aeval fr x with | .tup xs => xs[ix]? | _ => none) rfl fun s => ?_
    simp only [aop]
    repeat' split
    all_goals first | rfl | (simp only [Option.map_map]; rfl) | (simp_all; done) | (simp_all [Function.comp_def]; done) | (simp_all; rfl)
  | build t ps => exact quiet (abuild P t (ps.toList.map fun p => (p.1, aeval fr p.2))) rfl fun s => rfl
  | makeFunc fn first captured =>
    cases fn with
    | func f =>
      refine quiet (if first.isEmpty then some (.fn f (captured.toList.map (aeval fr))) else none) rfl fun s => ?_
      simp only [aop]
      repeat' split
      all_goals first | rfl | (simp only [Option.map_map]; rfl) | (simp_all; done) | (simp_all [Function.comp_def]; done) | (simp_all; rfl)
    | _ => simp [aop] at h
  | load t x =>
    simp only [aop] at h ⊢
    obtain ⟨v, hv, hyy⟩ := Option.map_eq_some_iff.1 h
    simp only [Prod.mk.injEq] at hyy
    obtain ⟨rfl, rfl⟩ := hyy
    have hx : ∃ i off, (aeval fr x = .ptr i off ∨ (aeval fr x = .pl (.pointer (some ⟨i, off, none⟩)) ∧ i < P.globals.size)) ∧ st.get i ≠ none := by
      unfold aload at hv
      split at hv
      · rename_i i off hx
        refine ⟨i, off, .inl hx, fun e => ?_⟩
        rw [e] at hv
        cases hv
      · rename_i i off hx
        split at hv
        case isFalse => cases hv
        rename_i hi
        refine ⟨i, off, .inr ⟨hx, hi⟩, fun e => ?_⟩
        rw [e] at hv
        cases hv
      · cases hv
    obtain ⟨i, off, hx, hlive⟩ := hx
    have hrd : areads P fr (.load t x) = [i] := by
      rcases hx with hx | ⟨hx, hi⟩
      · simp only [areads, hx]
      · simp only [areads, hx, hi, if_true]
    refine ⟨fun s => s, .inl rfl, rfl, fun _ k hk => ?_, fun st2 hst => ?_⟩
    · rw [hrd, List.mem_singleton] at hk
      rw [hk]
      exact hlive
    · have := hst (by simp [eff]) i (by rw [hrd]; simp)
      have e : aload P st2 t (aeval fr x) = aload P st t (aeval fr x) := by
        rcases hx with hx | ⟨hx, hi⟩
        · rw [hx]
          simp only [aload, this]
        · rw [hx]
          simp only [aload, this]
      rw [e, hv]
      rfl
  | convert src dt x =>
    simp only [aop] at h ⊢
    unfold aconvert at h
    split at h
    · rename_i d k k2 n hs hd hx
      simp only [Option.some.injEq, Prod.mk.injEq] at h
      obtain ⟨rfl, rfl⟩ := h
      have h0 : eff P (.convert src dt x) = 0 := by simp only [eff, hd]
      exact ⟨fun s => s, .inl rfl, rfl, fun h1 => absurd h0 h1, fun st2 _ => by simp only [aconvert, hs, hd, hx]⟩
    · rename_i e s hs hd hx
      split at h
      case h_2 => cases h
      rename_i hE hsz
      split at h
      case isFalse => cases h
      rename_i hm
      simp only [Option.some.injEq, Prod.mk.injEq] at h
      obtain ⟨rfl, rfl⟩ := h
      have hne : src ≠ dt := fun e => by rw [e, hd] at hs; cases hs
      have h0 : eff P (.convert src dt x) = 2 := by simp only [eff, hd]; rw [if_neg hne]
      exact ⟨fun s' => s'.put id ⟨s.data.toList.map fun b => .pl (.int .u8 b.toNat), e, false, id⟩, .inr ⟨h0, _, rfl⟩, rfl, fun h1 k hk => (by simp [areads, hx] at hk), fun st2 _ => by simp only [aconvert, hs, hd, hx, hE, hsz, hm, if_true]⟩
    · rename_i e i off len es hs hd hx
      split at h
      case h_2 => cases h
      rename_i ob hE hob
      split at h
      case isFalse => cases h
      rename_i hl
      obtain ⟨ns, hns, hyy⟩ := Option.map_eq_some_iff.1 h
      simp only [Prod.mk.injEq] at hyy
      obtain ⟨rfl, rfl⟩ := hyy
      have h0 : eff P (.convert src dt x) = 1 := by simp only [eff, hd]
      refine ⟨fun s => s, .inl rfl, rfl, fun _ k hk => ?_, fun st2 hst => ?_⟩
      · simp only [areads, hx] at hk
        split at hk
        · cases hk
        · rename_i hz
          simp only [List.mem_singleton] at hk
          rw [if_neg hz] at hob
          rw [hk, hob]
          simp
      · by_cases hz : len = 0
        · rw [if_pos hz] at hob
          simp only [aconvert, hs, hd, hx, hE, if_pos hz, hob, hl, if_true, hns, Option.map_some]
        · have := hst (by rw [h0]; decide) i (by simp [areads, hx, hz])
          rw [if_neg hz] at hob
          simp only [aconvert, hs, hd, hx, hE, if_neg hz, this, hob, hl, if_true, hns, Option.map_some]
    · rename_i e hs hd hx
      split at h
      case h_2 => cases h
      rename_i hE
      simp only [Option.some.injEq, Prod.mk.injEq] at h
      obtain ⟨rfl, rfl⟩ := h
      have h0 : eff P (.convert src dt x) = 1 := by simp only [eff, hd]
      exact ⟨fun s => s, .inl rfl, rfl, fun _ k hk => by simp [areads, hx] at hk, fun st2 _ => by simp only [aconvert, hs, hd, hx, hE]⟩
    · rename_i e0 e hs hd
      split at h
      case isFalse => cases h
      rename_i hsd
      have h0 : eff P (.convert src dt x) = 3 := by simp only [eff, hd]; rw [if_pos hsd]
      rw [h0] at he
      exact absurd he (by decide)
    · cases h
  | alloc e =>
    refine made (match zcells P e, szOf P e with | some cs, some s => some (.ptr id 0, ⟨cs, e, true, id⟩) | _, _ => none) rfl rfl fun s => ?_
    simp only [aop]
    repeat' split
    all_goals first | rfl | (simp only [Option.map_map]; rfl) | (simp_all; done) | (simp_all [Function.comp_def]; done) | (simp_all; rfl)
  | box e x =>
    refine made (match szOf P e with | some s => if (aeval fr x).solid then some (.ptr id 0, ⟨(aeval fr x).cells, e, true, id⟩) else none | none => none) rfl rfl fun s => ?_
    simp only [aop]
    repeat' split
    all_goals first | rfl | (simp only [Option.map_map]; rfl) | (simp_all; done) | (simp_all [Function.comp_def]; done) | (simp_all; rfl)
  | buildSlice t len ps => exact made (abuildSlice P t id len (ps.toList.map fun p => (p.1, aeval fr p.2))) rfl rfl fun s => rfl
  | makeSlice t l c => exact made (amakeSlice P t id (aeval fr l) (aeval fr c)) rfl rfl fun s => rfl
  | call c =>
    obtain ⟨callee, args, ats⟩ := c
    cases callee with
    | builtin b =>
      cases b <;> first
        | (simp [eff] at he; done)
        | skip
      · have hn : nilApp ⟨.builtin .append, args, ats⟩ = true := by
          cases hq : nilApp ⟨.builtin .append, args, ats⟩ with
          | true => rfl
          | false => simp only [eff, hq] at he; exact absurd he (by decide)
        have h2 : eff P (.call ⟨.builtin .append, args, ats⟩) = 2 := by simp only [eff, hn]; rfl
        have hq : ∃ x, args.toList = [.const (.slice none 0 0), x] := by
          unfold nilApp at hn
          split at hn
          · rename_i x hcl hx; exact ⟨x, hx⟩
          · cases hn
        obtain ⟨x, hx⟩ := hq
        have hop : ∀ s, aop P call id ⟨dst, .call ⟨.builtin .append, args, ats⟩, type, pos, after, guard⟩ fr s = if ats = #[ats.getD 0 0, ats.getD 0 0] then aappend P s id (ats.getD 0 0) (.pl (.slice none 0 0)) (aeval fr x) else none := fun s => by
          simp only [aop, abuiltin, hx, List.map_cons, List.map_nil, aeval]
        rw [hop] at h
        split at h
        case isFalse => cases h
        rename_i hats
        have hsr : ∀ (size : Nat) (nm : List AV × Nat), asrc P st size (aeval fr x) = some nm → (∀ k ∈ areads P fr (.call ⟨.builtin .append, args, ats⟩), st.get k ≠ none) ∧ ∀ st2 : St, (∀ k ∈ areads P fr (.call ⟨.builtin .append, args, ats⟩), st2.get k = st.get k) → asrc P st2 size (aeval fr x) = some nm := by
          intro size nm hs
          simp only [areads, hx]
          cases hv : aeval fr x with
          | sl j off m es =>
            simp only [hv, asrc] at hs ⊢
            by_cases h0 : m = 0
            · simp only [h0, if_true] at hs ⊢
              exact ⟨fun k hk => (by cases hk), fun st2 _ => hs⟩
            · simp only [h0, if_false] at hs ⊢
              refine ⟨fun k hk => ?_, fun st2 h2 => ?_⟩
              · simp only [List.mem_singleton] at hk
                intro e
                rw [hk] at e
                rw [e] at hs
                cases hs
              · rw [h2 j (by simp)]
                exact hs
          | pl v =>
            rw [hv] at hs
            refine ⟨fun k hk => (by cases hk), fun st2 _ => ?_⟩
            rw [← hs]
            cases v with
            | slice q n c => cases n <;> rfl
            | _ => rfl
          | _ => simp [hv, asrc] at hs
        unfold aappend at h
        split at h
        case h_2 => cases h
        rename_i e hu
        split at h
        case h_2 => cases h
        rename_i ti hti
        split at h
        case h_2 => cases h
        rename_i news m hsrc
        obtain ⟨k1, k2⟩ := hsr _ _ hsrc
        simp only at h
        by_cases h0 : m = 0
        · rw [if_pos h0] at h
          simp only [Option.some.injEq, Prod.mk.injEq] at h
          obtain ⟨rfl, rfl⟩ := h
          refine ⟨fun s => s, .inl rfl, rfl, fun _ => k1, fun st2 hst => ?_⟩
          rw [hop, if_pos hats]
          simp only [aappend, hu, hti, k2 st2 (hst (by rw [h2]; decide)), h0, if_true]
        · rw [if_neg h0] at h
          split at h
          case isFalse => cases h
          rename_i hc
          simp only [Option.some.injEq, Prod.mk.injEq] at h
          obtain ⟨rfl, rfl⟩ := h
          refine ⟨fun s => s.put id ⟨news, e, true, id⟩, .inr ⟨h2, _, rfl⟩, rfl, fun _ => k1, fun st2 hst => ?_⟩
          rw [hop, if_pos hats]
          simp only [aappend, hu, hti, k2 st2 (hst (by rw [h2]; decide))]
          rw [if_neg h0, if_pos hc]
      · exact quiet (alen P ats (args.toList.map (aeval fr))) rfl fun s => rfl
      · exact quiet (amax (args.toList.map (aeval fr))) rfl fun s => rfl
      · exact quiet (amin (args.toList.map (aeval fr))) rfl fun s => rfl
    | _ => simp [eff] at he
  | _ => simp [eff] at he
end Go.Proofs.YthjfncppiffnmaaDoor.Ra
/- A region: whatever order is drawn, it comes to the same. -/
namespace Go.Proofs.YthjfncppiffnmaaDoor.Ra
open Go Go.RowKit
set_option linter.unusedVariables false
set_option linter.unusedSimpArgs false
section
variable {P : Program} {call : ACall} {sd : Bool} {ops : Array Oper} {n0 : Nat}
theorem apart_sym {x y : Oper} (h : x.apart ops y = true) : (∀ d, x.dst = some d → d ∉ y.looksAt ops) ∧ (∀ d, x.dst = some d → y.dst ≠ some d) ∧ (∀ d, y.dst = some d → d ∉ x.looksAt ops) := Oper.apart_spec h
/-- Two neighbours that do not meet change places: j stood first, i comes first. -/
theorem astep_swap {i j : Nat} {oi oj : Oper} (hi : ops[i]? = some oi) (hj : ops[j]? = some oj) (hij : i ≠ j) (hap : oj.apart ops oi = true)
    (he : eff P oi.op = 0 ∨ eff P oj.op = 0 ∨ (eff P oi.op ≤ 2 ∧ eff P oj.op ≤ 2) ∨ (sd = true ∧ ((isCall oi.op = true ∧ must P ops i = true ∧ eff P oj.op = 1) ∨ (isCall oj.op = true ∧ must P ops j = true ∧ eff P oi.op = 1)))) {fr fr1 fr2 : AFr} {st st1 st2 : St}
    (hfi : eff P oi.op = 2 → st.get (n0 + i) = none) (hfj : n0 + j ∉ areads P fr oi.op) (hlow : eff P oi.op = 1 → ∀ k ∈ areads P fr oi.op, k < st.n)
    (h1 : astep P call sd ops n0 j fr st = some (fr1, st1)) (h2 : astep P call sd ops n0 i fr1 st1 = some (fr2, st2)) :
    ∃ fr3 st3, astep P call sd ops n0 i fr st = some (fr3, st3) ∧ astep P call sd ops n0 j fr3 st3 = some (fr2, st2) := by
  obtain ⟨a1, a2, a3⟩ := apart_sym hap
  have wj : ∀ v, awanted ops (aput fr oi.dst v) oj = awanted ops fr oj := fun v => awanted_put a3
  have wi : ∀ v, awanted ops (aput fr oj.dst v) oi = awanted ops fr oi := fun v => awanted_put a1
  have oj' : ∀ v s, aop P call (n0 + j) oj (aput fr oi.dst v) s = aop P call (n0 + j) oj fr s := fun v s => aop_put a3
  have oi' : ∀ v s, aop P call (n0 + i) oi (aput fr oj.dst v) s = aop P call (n0 + i) oi fr s := fun v s => aop_put a1
  have sw : ∀ v u, aput (aput fr oj.dst v) oi.dst u = aput (aput fr oi.dst u) oj.dst v := fun v u => aput_comm fr v u a2
  by_cases cj : awanted ops fr oj = true
  · obtain ⟨yj, hj1, sj, rfl⟩ := (wanted_step hj cj).1 h1
    by_cases ci : awanted ops fr oi = true
    · obtain ⟨yi, hi1, si, rfl⟩ := (wanted_step hi (by rw [wi]; exact ci)).1 h2
      rw [oi'] at hi1
      have fin : ∀ {sa : St}, aop P call (n0 + i) oi fr st = some (yi, sa) → aop P call (n0 + j) oj fr sa = some (yj, st2) → Fine sd (must P ops i) oi yi st sa → Fine sd (must P ops j) oj yj sa st2 → ∃ fr3 st3, astep P call sd ops n0 i fr st = some (fr3, st3) ∧ astep P call sd ops n0 j fr3 st3 = some (aput (aput fr oj.dst yj) oi.dst yi, st2) := by
        intro sa e1 e2 si sj
        exact ⟨aput fr oi.dst yi, sa, (wanted_step hi ci).2 ⟨yi, e1, si, rfl⟩, (wanted_step hj (by rw [wj]; exact cj)).2 ⟨yj, by rw [oj']; exact e2, sj, (sw yj yi).symm⟩⟩
      have fi : ∀ {s s' : St}, eff P oi.op ≠ 3 → Fine sd (must P ops i) oi yi s s' := fun h3 => ⟨si.1, fun _ _ hc => absurd (isCall_eff hc) h3⟩
      have fj : ∀ {s s' : St}, eff P oj.op ≠ 3 → Fine sd (must P ops j) oj yj s s' := fun h3 => ⟨sj.1, fun _ _ hc => absurd (isCall_eff hc) h3⟩
      by_cases e0i : eff P oi.op = 0
      · obtain ⟨f, hf, hf2, _, hf3⟩ := aop_light (by omega) hi1
        have hfid : f = fun s => s := by rcases hf with h | h; exact h; omega
        subst hfid
        subst hf2
        exact fin (hf3 st (fun h => by omega)) hj1 (fi (by omega)) sj
      · by_cases e0j : eff P oj.op = 0
        · obtain ⟨g, hg, hg2, _, hg3⟩ := aop_light (by omega) hj1
          have hgid : g = fun s => s := by rcases hg with h | h; exact h; omega
          subst hgid
          subst hg2
          exact fin hi1 (hg3 st2 (fun h => by omega)) si (fj (by omega))
        · rcases (he.resolve_left e0i).resolve_left e0j with he2 | ⟨hsd, ⟨hci, hmi, hej⟩ | ⟨hcj, hmj, hei⟩⟩
          · obtain ⟨f, hf, hf2, _, hf3⟩ := aop_light he2.1 hi1
            obtain ⟨g, hg, hg2, hglive, hg3⟩ := aop_light he2.2 hj1
            have e1 : aop P call (n0 + i) oi fr st = some (yi, f st) := hf3 st (fun h1 k hk => by
              rw [hg2]
              rcases hg with hg | ⟨_, ob, hg⟩
              · rw [hg]
              · rw [hg]
                have : k ≠ n0 + j := fun e => hfj (by rw [← e]; exact hk)
                simp [St.put, this])
            have e2 : aop P call (n0 + j) oj fr (f st) = some (yj, g (f st)) := hg3 (f st) (fun h1 k hk => by
              rcases hf with hf | ⟨h2e, ob, hf⟩
              · rw [hf]
              · rw [hf]
                have : k ≠ n0 + i := fun e => hglive h1 k hk (by rw [e]; exact hfi h2e)
                simp [St.put, this])
            have e3 : g (f st) = st2 := by
              rw [hf2, hg2]
              rcases hf with hf | ⟨_, ob, hf⟩
              · rw [hf]
              · rcases hg with hg | ⟨_, ob', hg⟩
                · rw [hg]
                · rw [hf, hg]
                  exact put_comm_st st ob ob' (by omega)
            rw [e3] at e2
            exact fin e1 e2 (fi (by omega)) (fj (by omega))
          · obtain ⟨g, hg, hg2, hglive, hg3⟩ := aop_light (by omega) hj1
            have hgid : g = fun s => s := by rcases hg with h | h; exact h; omega
            subst hgid
            subst hg2
            have hst := si.2 hsd hmi hci
            exact fin hi1 (hg3 st2 (fun h1 k hk => by
              have hl := hglive h1 k hk
              cases hk2 : st1.get k with
              | none => exact absurd hk2 hl
              | some ob => exact hst.get k ob hk2)) si (fj (by omega))
          · obtain ⟨f, hf, hf2, _, hf3⟩ := aop_light (by omega) hi1
            have hfid : f = fun s => s := by rcases hf with h | h; exact h; omega
            subst hfid
            subst hf2
            have hst := sj.2 hsd hmj hcj
            exact fin (hf3 st (fun _ k hk => (hst.old k (hlow hei k hk)).symm)) hj1 (fi (by omega)) sj
    · have h3 := unwanted_step (P := P) (call := call) (sd := sd) (n0 := n0) (fr := aput fr oj.dst yj) (st := st1) hi (by rw [wi]; exact ci)
      rw [h3] at h2
      simp only [Option.some.injEq, Prod.mk.injEq] at h2
      obtain ⟨rfl, rfl⟩ := h2
      exact ⟨aput fr oi.dst (.pl undef), st, unwanted_step hi ci, (wanted_step hj (by rw [wj]; exact cj)).2 ⟨yj, by rw [oj']; exact hj1, sj, (sw yj _).symm⟩⟩
  · have h3 := unwanted_step (P := P) (call := call) (sd := sd) (n0 := n0) (st := st) hj cj
    rw [h3] at h1
    simp only [Option.some.injEq, Prod.mk.injEq] at h1
    obtain ⟨rfl, rfl⟩ := h1
    by_cases ci : awanted ops fr oi = true
    · obtain ⟨yi, hi1, si, rfl⟩ := (wanted_step hi (by rw [wi]; exact ci)).1 h2
      rw [oi'] at hi1
      refine ⟨aput fr oi.dst yi, st2, (wanted_step hi ci).2 ⟨yi, hi1, si, rfl⟩, ?_⟩
      rw [unwanted_step hj (by rw [wj]; exact cj), sw]
    · have h4 := unwanted_step (P := P) (call := call) (sd := sd) (n0 := n0) (fr := aput fr oj.dst (.pl undef)) (st := st) hi (by rw [wi]; exact ci)
      rw [h4] at h2
      simp only [Option.some.injEq, Prod.mk.injEq] at h2
      obtain ⟨rfl, rfl⟩ := h2
      refine ⟨aput fr oi.dst (.pl undef), st, unwanted_step hi ci, ?_⟩
      rw [unwanted_step hj (by rw [wj]; exact cj), sw]
/-- What a step of another operation leaves of the names to come. -/
theorem astep_keeps {i j : Nat} {oj : Oper} (hj : ops[j]? = some oj) (hij : i ≠ j) (he : eff P oj.op ≤ 2) {fr fr1 : AFr} {st st1 : St} (h : astep P call sd ops n0 j fr st = some (fr1, st1)) : st1.get (n0 + i) = st.get (n0 + i) := by
  by_cases cj : awanted ops fr oj = true
  · obtain ⟨y, h1, _, _⟩ := (wanted_step hj cj).1 h
    obtain ⟨f, hf, hf2, _, _⟩ := aop_light he h1
    rw [hf2]
    rcases hf with hf | ⟨_, ob, hf⟩
    · rw [hf]
    · rw [hf]
      have : n0 + i ≠ n0 + j := by omega
      show (if n0 + i = n0 + j then some ob else st.get (n0 + i)) = _
      rw [if_neg this]
  · rw [unwanted_step hj cj] at h
    simp only [Option.some.injEq, Prod.mk.injEq] at h
    rw [← h.2]
theorem astep_n {j : Nat} {oj : Oper} (hj : ops[j]? = some oj) (he : eff P oj.op ≤ 2 ∨ (sd = true ∧ must P ops j = true ∧ isCall oj.op = true)) {fr fr1 : AFr} {st st1 : St} (h : astep P call sd ops n0 j fr st = some (fr1, st1)) : st.n ≤ st1.n := by
  by_cases cj : awanted ops fr oj = true
  · obtain ⟨y, h1, hf, _⟩ := (wanted_step hj cj).1 h
    rcases he with he | ⟨hs, hm, hc⟩
    · obtain ⟨f, hf, hf2, _, _⟩ := aop_light he h1
      rw [hf2]
      rcases hf with hf | ⟨_, ob, hf⟩ <;> rw [hf] <;> exact Nat.le_refl _
    · exact (hf.2 hs hm hc).n
  · rw [unwanted_step hj cj] at h
    simp only [Option.some.injEq, Prod.mk.injEq] at h
    rw [← h.2]; exact Nat.le_refl _
theorem astep_areads {j : Nat} {oi oj : Oper} (hj : ops[j]? = some oj) (hap : oj.apart ops oi = true) {fr fr1 : AFr} {st st1 : St} (h : astep P call sd ops n0 j fr st = some (fr1, st1)) : areads P fr1 oi.op = areads P fr oi.op := by
  by_cases cj : awanted ops fr oj = true
  · obtain ⟨y, _, _, rfl⟩ := (wanted_step hj cj).1 h
    exact areads_put (apart_sym hap).1
  · rw [unwanted_step hj cj] at h
    simp only [Option.some.injEq, Prod.mk.injEq] at h
    rw [← h.1]
    exact areads_put (apart_sym hap).1
def meets (P : Program) (sd : Bool) (ops : Array Oper) (j i : Nat) : Prop := ∃ oj oi, ops[j]? = some oj ∧ ops[i]? = some oi ∧ oj.apart ops oi = true ∧ (eff P oi.op = 0 ∨ eff P oj.op = 0 ∨ (eff P oi.op ≤ 2 ∧ eff P oj.op ≤ 2) ∨ (sd = true ∧ ((isCall oi.op = true ∧ must P ops i = true ∧ eff P oj.op = 1) ∨ (isCall oj.op = true ∧ must P ops j = true ∧ eff P oi.op = 1))))
/-- An operation that meets none of those ahead of it may come first. -/
theorem arun_pull {i : Nat} {oi : Oper} (hi : ops[i]? = some oi) : ∀ (p q : List Nat) (fr : AFr) (st : St) (res : AFr × St), (∀ j ∈ p, j ≠ i ∧ meets P sd ops j i) → (∀ j ∈ p, n0 + j ∉ areads P fr oi.op) → (eff P oi.op = 2 → st.get (n0 + i) = none) → (eff P oi.op = 1 → ∀ k ∈ areads P fr oi.op, k < st.n) →
    arun P call sd ops n0 (p ++ i :: q) fr st = some res → arun P call sd ops n0 (i :: (p ++ q)) fr st = some res
  | [], q, fr, st, res, _, _, _, _, h => h
  | j :: p, q, fr, st, res, hp, hr, hf, hlow, h => by
    obtain ⟨hji, oj, oi', hj, hi', hap, he⟩ := hp j (by simp)
    rw [hi] at hi'
    cases hi'
    simp only [List.cons_append, arun] at h
    obtain ⟨⟨fr1, st1⟩, h1, h2⟩ := Option.bind_eq_some_iff.1 h
    have hf1 : eff P oi.op = 2 → st1.get (n0 + i) = none := by
      intro e2
      have e1 : eff P oj.op ≤ 2 := by
        rcases he with he | he | he | ⟨_, ⟨he, _, _⟩ | ⟨_, _, he⟩⟩
        · omega
        · omega
        · exact he.2
        · have := isCall_eff (P := P) he; omega
        · omega
      rw [astep_keeps hj (Ne.symm hji) e1 h1]
      exact hf e2
    have hlow1 : eff P oi.op = 1 → ∀ k ∈ areads P fr1 oi.op, k < st1.n := by
      intro e1 k hk
      rw [astep_areads hj hap h1] at hk
      refine Nat.lt_of_lt_of_le (hlow e1 k hk) (astep_n hj ?_ h1)
      rcases he with he | he | he | ⟨hs, ⟨he, _, _⟩ | ⟨he, hm, _⟩⟩
      · omega
      · exact .inl (by omega)
      · exact .inl he.2
      · have := isCall_eff (P := P) he; omega
      · exact .inr ⟨hs, hm, he⟩
    have h3 := arun_pull hi p q fr1 st1 res (fun k hk => hp k (by simp [hk])) (fun k hk => by rw [astep_areads hj hap h1]; exact hr k (by simp [hk])) hf1 hlow1 h2
    simp only [arun] at h3
    obtain ⟨⟨fr2, st2⟩, h4, h5⟩ := Option.bind_eq_some_iff.1 h3
    obtain ⟨fr3, st3, h6, h7⟩ := astep_swap hi hj (Ne.symm hji) hap he hf (hr j (by simp)) hlow h1 h4
    simp only [List.cons_append, arun, h6, Option.bind_some, h7]
    exact h5
end
section
variable {P : Program} {w0 : World} {call : ACall} {sd : Bool}
/-- A call that is sound. -/
def CallOK (P : Program) (w0 : World) (call : ACall) : Prop :=
  ∀ f xs st r st', call f xs st = some (r, st') → (∃ fn, P.funcs[f]? = some fn ∧ (fn.name == "runtime.NumGoroutine") = false ∧ fn.body.isNone = false) ∧ st.n ≤ st'.n ∧
    ∀ σ w vs, Sim P w0 σ st w → CR σ xs vs → Calls P f vs.toArray w (fun e w' => ∃ v σ', e = .returned v ∧ Sub σ σ' ∧ (∀ i, i < st.n → σ i = none → σ' i = none) ∧ Sim P w0 σ' st' w' ∧ VR σ' r v)
/-- One operation. -/
theorem aop_wp (hc : CallOK P w0 call) {σ : Ren} {st st' : St} {w : World} (h : Sim P w0 σ st w) {id : Nat} (hid : σ id = none) (hn : id < st.n) {fr : AFr} {a : Act} (hF : FR σ fr a) {o : Oper} {y : AV} (ha : aop P call id o fr st = some (y, st'))
    {next : Act → World → Prop} {Q : Exit → Act → World → Prop} (hk : ∀ v w' σ', Sub σ σ' → (∀ i, i ≠ id → i < st.n → σ i = none → σ' i = none) → st.n ≤ st'.n → Sim P w0 σ' st' w' → VR σ' y v → next (a.put o.dst v) w') : o.wp P a w next Q := by
  by_cases hcall : ∃ c f, o.op = .call c ∧ c.callee = .value f
  · obtain ⟨c, f, ho, hf⟩ := hcall
    unfold aop at ha
    simp only [ho, hf] at ha
    split at ha
    case h_2 => cases ha
    rename_i g caps hg
    obtain ⟨⟨fn, h1, h2, h3⟩, hle, h4⟩ := hc g _ st y st' ha
    have he := hF.eval f
    rw [hg] at he
    generalize hv : a.eval f = fv at he
    cases he with
    | fn hlen hh =>
    rename_i vs
    have hcr : CR σ (c.args.toList.map (aeval fr) ++ caps) (c.args.toList.map a.eval ++ vs.toList) := (CR.map hF c.args.toList).append ⟨by simpa using hlen, fun j x v hx hv => hh j x v hx (by simpa using hv)⟩
    have h5 := h4 σ w _ h hcr
    have hrun : (execOp a.eval o).run P w = .ok (.enter g (c.args.map a.eval ++ vs)) w := by
      simp only [execOp, ho, resolve, hf, hv, Deferred.ofValue, Sem.run_bind, Sem.run_pure, Result.andThen_ok, invoke, callFunc, run_program, h1, h2, Bool.false_eq_true, if_false, h3, Array.empty_append]
    unfold Oper.wp
    rw [hrun]
    have e : (c.args.toList.map a.eval ++ vs.toList).toArray = c.args.map a.eval ++ vs := by
      apply Array.toList_inj.1
      simp
    rw [e] at h5
    refine Calls.mono h5 fun e' w' he' => ?_
    obtain ⟨v, σ', rfl, hs, hnew, hS, hV⟩ := he'
    exact hk v w' σ' hs (fun i _ hi hn => hnew i hi hn) hle hS hV
  · obtain ⟨r, v, w', σ', hr, hrr, hN, hS, hV, hnn⟩ := aop_run h hid hn hF (fun c f ho hf => hcall ⟨c, f, ho, hf⟩) ha
    unfold Oper.wp
    rw [hr]
    have := hk v w' σ' hN.sub (fun i hi _ hi0 => hN.only i hi hi0) (by omega) hS hV
    rcases hrr with rfl | ⟨rfl, rfl⟩
    · exact this
    · exact this
theorem awanted_eq {ops : Array Oper} {σ : Ren} {fr : AFr} {a : Act} (hF : FR σ fr a) (o : Oper) : Region.wanted o (yielded ops a.tmps) = awanted ops fr o := by
  unfold Region.wanted awanted
  cases hg : o.guard with
  | none => rfl
  | some gw =>
    obtain ⟨j, want⟩ := gw
    simp only
    unfold yielded
    cases hd : (ops[j]?).bind (·.dst) with
    | none => rfl
    | some d =>
      simp only [Option.bind_some]
      obtain ⟨hv, hsol⟩ := hF d
      cases ht : a.tmps[d]? with
      | none =>
        have e : a.tmps.getD d undef = undef := by simp [ht]
        rw [e] at hv
        generalize fr d = x at hv hsol
        cases x with
        | pl u =>
          cases hv
          rfl
        | _ => rfl
      | some u =>
        have e : a.tmps.getD d undef = u := by simp [ht]
        rw [e] at hv
        generalize fr d = x at hv hsol
        cases hv with
        | pl u => cases u <;> simp <;> rfl
        | top u => cases hsol
        | _ => rfl
/-- Where a region stands: what is still to do, and that it comes to its end. -/
structure Mid (P : Program) (w0 : World) (call : ACall) (sd : Bool) (ops : Array Oper) (n0 : Nat) (σ0 σ : Ren) (todo : List Nat) (res : AFr × St) (fr : AFr) (st : St) (a : Act) (w : World) (size : Nat) : Prop where
  sim : Sim P w0 σ st w
  frr : FR σ fr a
  free : ∀ j ∈ todo, σ (n0 + j) = none
  room : n0 + ops.size ≤ st.n
  run : arun P call sd ops n0 todo fr st = some res
  sub : Sub σ0 σ
  old : ∀ i, i < n0 → σ0 i = none → σ i = none
  defers : a.defers = []
  size : a.tmps.size = size
theorem Mid.step (hc : CallOK P w0 call) {ops : Array Oper} {n0 : Nat} {σ0 σ : Ren} {i : Nat} {todo : List Nat} {res : AFr × St} {fr : AFr} {st : St} {a : Act} {w : World} {size : Nat} (hput : putsOK size ops = true) (h : Mid P w0 call sd ops n0 σ0 σ (i :: todo) res fr st a w size) (hnd : i ∉ todo) (hlt : ∀ j ∈ i :: todo, j < ops.size)
    {Q : Exit → Act → World → Prop} {K : Act → World → Prop} (hk : ∀ σ' fr' st' a' w', Mid P w0 call sd ops n0 σ0 σ' todo res fr' st' a' w' size → K a' w') : wpOp P ops Q i K a w := by
  have hrun := h.run
  simp only [arun] at hrun
  obtain ⟨⟨fr1, st1⟩, h1, h2⟩ := Option.bind_eq_some_iff.1 hrun
  unfold wpOp
  cases ho : ops[i]? with
  | none => unfold astep at h1; simp only [ho] at h1; cases h1
  | some o =>
    simp only
    have hd : ∀ t, o.dst = some t → t < a.tmps.size := by
      intro t ht
      have := Array.all_eq_true_iff_forall_mem.1 hput o (Array.mem_of_getElem? ho)
      rw [ht] at this
      rw [h.size]
      simpa using this
    rw [awanted_eq h.frr o]
    by_cases cw : awanted ops fr o = true
    · obtain ⟨y, h3, hys, rfl⟩ := (wanted_step ho cw).1 h1
      simp only [cw, if_true]
      have hi := hlt i (by simp)
      have hroom := h.room
      refine .inl (aop_wp hc h.sim (h.free i (by simp)) (by omega) h.frr h3 fun v w' σ' hs hnew hle hS hV => hk σ' (aput fr o.dst y) st1 (a.put o.dst v) w' ?_)
      have hne : ∀ j ∈ todo, n0 + j ≠ n0 + i := fun j hj e => hnd (by
        obtain rfl : j = i := by omega
        exact hj)
      refine ⟨hS, (h.frr.sub hs).put hV hys.1 hd, fun j hj => hnew _ (hne j hj) (by have := hlt j (by simp [hj]); omega) (h.free j (by simp [hj])), by omega, h2, h.sub.trans hs, fun k hk hk0 => hnew k (by omega) (by omega) (h.old k hk hk0), ?_, ?_⟩
      · cases hdst : o.dst <;> simp [Act.put, h.defers]
      · cases hdst : o.dst <;> simp [Act.put, h.size]
    · rw [unwanted_step ho cw] at h1
      simp only [Option.some.injEq, Prod.mk.injEq] at h1
      obtain ⟨rfl, rfl⟩ := h1
      have cw2 : awanted ops fr o = false := by simpa using cw
      simp only [cw2, Bool.false_eq_true, if_false]
      refine hk σ (aput fr o.dst (.pl undef)) st (a.put o.dst undef) w ⟨h.sim, h.frr.put (.pl _) rfl hd, fun j hj => h.free j (by simp [hj]), h.room, h2, h.sub, h.old, ?_, ?_⟩
      · cases hdst : o.dst <;> simp [Act.put, h.defers]
      · cases hdst : o.dst <;> simp [Act.put, h.size]
theorem Mid.straight (hc : CallOK P w0 call) {ops : Array Oper} {n0 : Nat} {σ0 : Ren} {res : AFr × St} {size : Nat} (hput : putsOK size ops = true) {Q : Exit → Act → World → Prop}
    (hQ : ∀ σ a w, Mid P w0 call sd ops n0 σ0 σ [] res res.1 res.2 a w size → Q .normal a w) : ∀ (todo : List Nat) (σ : Ren) (fr : AFr) (st : St) (a : Act) (w : World), todo.Nodup → (∀ j ∈ todo, j < ops.size) → Mid P w0 call sd ops n0 σ0 σ todo res fr st a w size → wpOps P ops Q todo a w
  | [], σ, fr, st, a, w, _, _, h => by
    have e : (fr, st) = res := by have := h.run; simpa [arun] using this
    subst e
    exact hQ σ a w h
  | i :: todo, σ, fr, st, a, w, hnd, hlt, h => by
    rw [wpOps_cons]
    have h2 := List.nodup_cons.1 hnd
    exact h.step hc hput h2.1 hlt fun σ' fr' st' a' w' hm => Mid.straight hc hput hQ todo σ' fr' st' a' w' h2.2 (fun j hj => hlt j (by simp [hj])) hm
theorem commOK_edge {ops : Array Oper} (h : commOK P sd ops = true) {i : Nat} {o : Oper} (hi : ops[i]? = some o) : ∀ e ∈ o.after, Region.binds .any e = true → e.on < i := by
  have hlt : i < ops.size := (Array.getElem?_eq_some_iff.1 hi).1
  have h1 := List.all_eq_true.1 h i (List.mem_range.2 hlt)
  simp only [Bool.and_eq_true, hi, Option.map_some, Option.getD_some] at h1
  intro e he hb
  have := Array.all_eq_true_iff_forall_mem.1 h1.1 e he
  simpa [hb] using this
theorem commOK_pair {ops : Array Oper} (h : commOK P sd ops = true) {i j : Nat} {oi : Oper} (hi : ops[i]? = some oi) (hji : j < i) (hno : ∀ k, ahead ops k j i = false) : meets P sd ops j i := by
  have hlt : i < ops.size := (Array.getElem?_eq_some_iff.1 hi).1
  have h1 := List.all_eq_true.1 h i (List.mem_range.2 hlt)
  simp only [Bool.and_eq_true] at h1
  have h2 := List.all_eq_true.1 h1.2 j (List.mem_range.2 hji)
  unfold commPair at h2
  split at h2
  · rename_i oj oi' hj hi'
    rw [hi] at hi'
    cases hi'
    simp only [Bool.or_eq_true, Bool.and_eq_true, beq_iff_eq, decide_eq_true_eq] at h2
    rcases h2 with h2 | ⟨h2, h3⟩
    · rw [hno] at h2; cases h2
    · refine ⟨oj, oi, hj, hi, h2, ?_⟩
      rcases h3 with ((h3 | h3) | h3) | h3
      · exact .inl h3
      · exact .inr (.inl h3)
      · exact .inr (.inr (.inl h3))
      · exact .inr (.inr (.inr h3))
  · cases h2
/-- What is drawn has all that is always drawn ahead of it behind it. -/
def Closed (ops : Array Oper) (listed : Array Bool) : Prop := ∀ (i : Nat) (o : Oper), ops[i]? = some o → listed.getD i false = true → ∀ e ∈ o.after, Region.binds .any e = true → listed.getD e.on false = true
theorem Closed.ahead {ops : Array Oper} {listed : Array Bool} (h : Closed ops listed) {j : Nat} (hj : listed.getD j true = false) : ∀ (k i : Nat) (o : Oper), ops[i]? = some o → (∀ e ∈ o.after, Region.binds .any e = true → listed.getD e.on false = true) → Ra.ahead ops k j i = false
  | 0, i, o, _, _ => rfl
  | k + 1, i, o, ho, ha => by
    simp only [Ra.ahead, ho]
    rw [Bool.eq_false_iff]
    intro hc
    obtain ⟨e, he, hb⟩ := Array.any_eq_true'.1 hc
    simp only [Bool.and_eq_true, Bool.or_eq_true, beq_iff_eq] at hb
    have hl := ha e he hb.1
    rcases hb.2 with hb2 | hb2
    · rw [hb2] at hl
      by_cases hb3 : j < listed.size
      · simp [hb3] at hj hl; rw [hj] at hl; cases hl
      · simp [hb3] at hl
    · cases hoe : ops[e.on]? with
      | none => cases k <;> simp [Ra.ahead, hoe] at hb2
      | some oe =>
        rw [Closed.ahead h hj k e.on oe hoe (h e.on oe hoe hl)] at hb2
        cases hb2
theorem Mid.drawn (hc : CallOK P w0 call) {ops : Array Oper} (hok : commOK P sd ops = true) {n0 : Nat} {σ0 : Ren} {res : AFr × St} {size : Nat} (hput : putsOK size ops = true) {Q : Exit → Act → World → Prop}
    (hQ : ∀ σ a w, Mid P w0 call sd ops n0 σ0 σ [] res res.1 res.2 a w size → Q .normal a w) : ∀ (fuel : Nat) (todo : List Nat) (listed : Array Bool) (σ : Ren) (fr : AFr) (st : St) (a : Act) (w : World), todo.length = fuel → todo.Pairwise (· < ·) → listed.size = ops.size → (∀ j, j ∈ todo ↔ (j < ops.size ∧ listed.getD j true = false)) → Closed ops listed → Mid P w0 call sd ops n0 σ0 σ todo res fr st a w size → wpAny P .any ops Q fuel listed a w
  | fuel, todo, listed, σ, fr, st, a, w, hfl, hsort, hsz, hmem, hclosed, h => by
    have hdone : todo = [] → Q .normal a w := by
      intro e
      subst e
      have e : (fr, st) = res := by have := h.run; simpa [arun] using this
      subst e
      exact hQ σ a w h
    have hready : ∀ j, j ∈ Region.ready .any ops listed → j ∈ todo := fun j hj => by
      obtain ⟨h1, o, ho, _⟩ := mem_ready.1 hj
      exact (hmem j).2 ⟨(Array.getElem?_eq_some_iff.1 ho).1, h1⟩
    have hnil : Region.ready .any ops listed = [] → todo = [] := by
      intro he
      cases htodo : todo with
      | nil => rfl
      | cons i r =>
        exfalso
        have hi := (hmem i).1 (by simp [htodo])
        have hir : i ∈ Region.ready .any ops listed := by
          refine mem_ready.2 ⟨hi.2, ops[i], Array.getElem?_eq_getElem hi.1, fun e he' hb => ?_⟩
          have hlt := commOK_edge hok (Array.getElem?_eq_getElem hi.1) e he' hb
          by_cases hl : listed.getD e.on true = false
          · have hin := (hmem e.on).2 ⟨by omega, hl⟩
            rw [htodo] at hin hsort
            rcases List.mem_cons.1 hin with h2 | h2
            · omega
            · have := (List.pairwise_cons.1 hsort).1 e.on h2
              omega
          · have hb2 : e.on < listed.size := by omega
            simp [hb2] at hl ⊢
            exact hl
        rw [he] at hir
        cases hir
    cases fuel with
    | zero =>
      have ht : todo = [] := List.eq_nil_of_length_eq_zero hfl
      refine ⟨?_, hdone ht⟩
      cases hr : Region.ready .any ops listed with
      | nil => rfl
      | cons x xs =>
        have := hready x (by rw [hr]; simp)
        rw [ht] at this
        cases this
    | succ fuel =>
      refine ⟨fun he => hdone (hnil he), fun i hi => ?_⟩
      have hit := hready i hi
      obtain ⟨p, q, rfl⟩ := List.append_of_mem hit
      obtain ⟨hun, oi, hoi, hall⟩ := mem_ready.1 hi
      have hpw := List.pairwise_append.1 hsort
      have hpi : ∀ j ∈ p, j < i := fun j hj => hpw.2.2 j hj i (by simp)
      have hqi : ∀ j ∈ q, i < j := fun j hj => (List.pairwise_cons.1 hpw.2.1).1 j hj
      have hmeet : ∀ j ∈ p, j ≠ i ∧ meets P sd ops j i := fun j hj => ⟨by have := hpi j hj; omega, commOK_pair hok hoi (hpi j hj) fun k => hclosed.ahead ((hmem j).1 (by simp [hj])).2 k i oi hoi hall⟩
      have hreads : ∀ j ∈ p, n0 + j ∉ areads P fr oi.op := by
        intro j hj hmem2
        have hfree := h.free j (by simp [hj])
        unfold areads at hmem2
        split at hmem2
        · rename_i t x hop
          split at hmem2
          · rename_i k off hx
            simp only [List.mem_singleton] at hmem2
            have hv := h.frr.eval x
            rw [hx] at hv
            generalize a.eval x = xv at hv
            cases hv with
            | ptr hk => rw [← hmem2, hfree] at hk; cases hk
          · split at hmem2
            · rename_i hg
              simp only [List.mem_singleton] at hmem2
              have hk := h.sim.init _ hg
              rw [← hmem2, hfree] at hk
              cases hk
            · cases hmem2
          · cases hmem2
        · rename_i t1 t2 x hop
          split at hmem2
          · rename_i k off len es hx
            split at hmem2
            · cases hmem2
            simp only [List.mem_singleton] at hmem2
            have hv := h.frr.eval x
            rw [hx] at hv
            generalize a.eval x = xv at hv
            cases hv with
            | sl hk _ _ _ _ => rw [← hmem2, hfree] at hk; cases hk
          · cases hmem2
        · rename_i cc hop
          split at hmem2
          · rename_i q0 x hx0
            split at hmem2
            · rename_i k off len es hx
              split at hmem2
              · cases hmem2
              simp only [List.mem_singleton] at hmem2
              have hv := h.frr.eval x
              rw [hx] at hv
              generalize a.eval x = xv at hv
              cases hv with
              | sl hk _ _ _ _ => rw [← hmem2, hfree] at hk; cases hk
            · cases hmem2
          · cases hmem2
        · cases hmem2
      have hlow : ∀ k ∈ areads P fr oi.op, k < st.n := by
        intro k0 hmem2
        refine Nat.lt_of_not_le fun hge => ?_
        have hfree := h.sim.dom k0 hge
        unfold areads at hmem2
        split at hmem2
        · rename_i t x hop
          split at hmem2
          · rename_i k off hx
            simp only [List.mem_singleton] at hmem2
            have hv := h.frr.eval x
            rw [hx] at hv
            generalize a.eval x = xv at hv
            cases hv with
            | ptr hk => rw [← hmem2, hfree] at hk; cases hk
          · split at hmem2
            · rename_i hg
              simp only [List.mem_singleton] at hmem2
              have hk := h.sim.init _ hg
              rw [← hmem2, hfree] at hk
              cases hk
            · cases hmem2
          · cases hmem2
        · rename_i t1 t2 x hop
          split at hmem2
          · rename_i k off len es hx
            split at hmem2
            · cases hmem2
            simp only [List.mem_singleton] at hmem2
            have hv := h.frr.eval x
            rw [hx] at hv
            generalize a.eval x = xv at hv
            cases hv with
            | sl hk _ _ _ _ => rw [← hmem2, hfree] at hk; cases hk
          · cases hmem2
        · rename_i cc hop
          split at hmem2
          · rename_i q0 x hx0
            split at hmem2
            · rename_i k off len es hx
              split at hmem2
              · cases hmem2
              simp only [List.mem_singleton] at hmem2
              have hv := h.frr.eval x
              rw [hx] at hv
              generalize a.eval x = xv at hv
              cases hv with
              | sl hk _ _ _ _ => rw [← hmem2, hfree] at hk; cases hk
            · cases hmem2
          · cases hmem2
        · cases hmem2
      have hnone : st.get (n0 + i) = none := by
        have hfree := h.free i (by simp)
        cases hg : st.get (n0 + i) with
        | none => rfl
        | some o =>
          obtain ⟨l, hl, _⟩ := h.sim.obj _ o hg
          rw [hfree] at hl
          cases hl
      have hrun := arun_pull hoi p q fr st res hmeet hreads (fun _ => hnone) (fun _ => hlow) h.run
      have hM : Mid P w0 call sd ops n0 σ0 σ (i :: (p ++ q)) res fr st a w size := ⟨h.sim, h.frr, fun j hj => h.free j (by
        rcases List.mem_cons.1 hj with rfl | hj
        · simp
        · rcases List.mem_append.1 hj with hj | hj <;> simp [hj]), h.room, hrun, h.sub, h.old, h.defers, h.size⟩
      have hnotin : i ∉ p ++ q := fun hin => by
        rcases List.mem_append.1 hin with hin | hin
        · have := hpi i hin; omega
        · have := hqi i hin; omega
      have hi_lt : i < ops.size := (Array.getElem?_eq_some_iff.1 hoi).1
      refine hM.step hc hput hnotin (fun j hj => ?_) fun σ' fr' st' a' w' hm => Mid.drawn hc hok hput hQ fuel (p ++ q) (listed.setIfInBounds i true) σ' fr' st' a' w' ?_ ?_ ?_ ?_ ?_ hm
      · rcases List.mem_cons.1 hj with rfl | hj
        · exact hi_lt
        · refine ((hmem j).1 ?_).1
          rcases List.mem_append.1 hj with hj | hj <;> simp [hj]
      · simp at hfl ⊢; omega
      · exact List.pairwise_append.2 ⟨hpw.1, (List.pairwise_cons.1 hpw.2.1).2, fun x hx y hy => hpw.2.2 x hx y (by simp [hy])⟩
      · simpa using hsz
      · intro j
        constructor
        · intro hj
          have hne : i ≠ j := fun e => hnotin (by rw [e]; exact hj)
          have := (hmem j).1 (by rcases List.mem_append.1 hj with hj | hj <;> simp [hj])
          exact ⟨this.1, by rw [getD_set_ne true hne]; exact this.2⟩
        · rintro ⟨h1, h2⟩
          by_cases hne : i = j
          · subst hne
            have hb2 : i < listed.size := by omega
            simp [hb2] at h2
          · rw [getD_set_ne true hne] at h2
            have := (hmem j).2 ⟨h1, h2⟩
            rcases List.mem_append.1 this with h3 | h3
            · simp [h3]
            · rcases List.mem_cons.1 h3 with h3 | h3
              · exact absurd h3.symm hne
              · simp [h3]
      · intro j o hj hl e he hb
        by_cases hne : i = e.on
        · rw [← hne]
          have hb2 : i < listed.size := by omega
          simp [hb2]
        · rw [getD_set_ne false hne]
          by_cases hji : i = j
          · subst hji
            rw [hoi] at hj
            cases hj
            exact hall e he hb
          · rw [getD_set_ne false hji] at hl
            exact hclosed j o hj hl e he hb
  termination_by fuel => fuel
end
end Go.Proofs.YthjfncppiffnmaaDoor.Ra
/- Code, calls, and a call from the outside: what the machine of names answers, the machine answers. -/
namespace Go.Proofs.YthjfncppiffnmaaDoor.Ra
open Go Go.RowKit
set_option linter.unusedVariables false
set_option linter.unusedSimpArgs false

def aloop (body : AFr → St → Option (AExit × AFr × St)) : Nat → AFr → St → Option (AExit × AFr × St)
  | 0, _, _ => none
  | n + 1, fr, st => match body fr st with
    | some (.normal, fr', st') => aloop body n fr' st'
    | r => r
noncomputable def acode (P : Program) (call : ACall) (n : Nat) : Code → AFr → St → Option (AExit × AFr × St)
  | .skip, fr, st => some (.normal, fr, st)
  | .region _ ops draw, fr, st => (aregion P call ops draw fr st).map fun r => (.normal, r.1, r.2)
  | .seq a b, fr, st => match acode P call n a fr st with
    | some (.normal, fr', st') => acode P call n b fr' st'
    | r => r
  | .cond c a b, fr, st => match aeval fr c with
    | .pl (.bool t) => if t then acode P call n a fr st else acode P call n b fr st
    | _ => none
  | .block id c, fr, st => match acode P call n c fr st with
    | some (.exit i, fr', st') => if i = id then some (.normal, fr', st') else some (.exit i, fr', st')
    | r => r
  | .loop c, fr, st => aloop (acode P call n c) n fr st
  | .exit id, fr, st => some (.exit id, fr, st)
  | .ret, fr, st => some (.ret, fr, st)
  | _, _, _ => none
def aresult (P : Program) (st : St) (fr : AFr) : ResultVar → Option AV
  | .tmp t => some (fr t)
  | .cell p q => aload P st q (fr p)
def aresults (P : Program) (st : St) (fn : Func) (fr : AFr) : Option AV := (fn.results.toList.mapM (aresult P st fr)).map fun
  | [x] => x
  | xs => .tup xs
noncomputable def afunc (P : Program) (call : ACall) (n : Nat) (fn : Func) (xs : List AV) (st : St) : Option (AV × St) :=
  match fn.body with
  | some c => if codeOK fn.ntmps c && fn.name != "runtime.NumGoroutine" && xs.all AV.solid then
      match acode P call n c (fun t => xs.getD t (.pl undef)) st with
      | some (.normal, fr, st') => (aresults P st' fn fr).map fun r => (r, st')
      | some (.ret, fr, st') => (aresults P st' fn fr).map fun r => (r, st')
      | _ => none
    else none
  | none => none
noncomputable def acall (P : Program) : Nat → ACall
  | 0, _, _, _ => none
  | k + 1, f, xs, st => match P.funcs[f]? with
    | some fn => afunc P (acall P k) k fn xs st
    | none => none
section
variable {P : Program} {w0 : World} {call : ACall}
/-- What is told behind some code. -/
def Post (P : Program) (w0 : World) (σ : Ren) (n0 size : Nat) (e : AExit) (fr' : AFr) (st' : St) (e' : Exit) (a' : Act) (w' : World) : Prop :=
  ∃ σ', e.is e' ∧ Sub σ σ' ∧ (∀ i, i < n0 → σ i = none → σ' i = none) ∧ Sim P w0 σ' st' w' ∧ FR σ' fr' a' ∧ a'.defers = [] ∧ a'.tmps.size = size
theorem Post.then_ {σ σ1 : Ren} {n0 n1 size : Nat} {e : AExit} {fr' : AFr} {st' : St} {e' : Exit} {a' : Act} {w' : World} (hs : Sub σ σ1) (ho : ∀ i, i < n0 → σ i = none → σ1 i = none) (hn : n0 ≤ n1) (h : Post P w0 σ1 n1 size e fr' st' e' a' w') : Post P w0 σ n0 size e fr' st' e' a' w' := by
  obtain ⟨σ', h1, h2, h3, h4⟩ := h
  exact ⟨σ', h1, hs.trans h2, fun i hi h0 => h3 i (by omega) (ho i hi h0), h4⟩
theorem arun_n (hc : CallOK P w0 call) {sd : Bool} {ops : Array Oper} {n0 : Nat} : ∀ (todo : List Nat) (fr : AFr) (st : St) (res : AFr × St), arun P call sd ops n0 todo fr st = some res → st.n ≤ res.2.n
  | [], fr, st, res, h => by simp only [arun, Option.some.injEq] at h; rw [← h]; exact Nat.le_refl _
  | i :: is, fr, st, res, h => by
    simp only [arun] at h
    obtain ⟨⟨fr1, st1⟩, h1, h2⟩ := Option.bind_eq_some_iff.1 h
    have h3 := arun_n hc is fr1 st1 res h2
    refine Nat.le_trans ?_ h3
    cases ho : ops[i]? with
    | none => unfold astep at h1; simp only [ho] at h1; cases h1
    | some o =>
      by_cases cw : awanted ops fr o = true
      · obtain ⟨y, h4, _, _⟩ := (wanted_step ho cw).1 h1
        by_cases hcall : ∃ c f, o.op = .call c ∧ c.callee = .value f
        · obtain ⟨c, f, hop, hf⟩ := hcall
          unfold aop at h4
          simp only [hop, hf] at h4
          split at h4
          case h_2 => cases h4
          exact (hc _ _ _ _ _ h4).2.1
        · by_cases he : eff P o.op ≤ 2
          · obtain ⟨f, hf, hf2, _⟩ := aop_light he h4
            rw [hf2]
            rcases hf with hf | ⟨_, ob, hf⟩ <;> rw [hf] <;> exact Nat.le_refl _
          · unfold aop at h4
            split at h4 <;> (try (cases h4; done)) <;> (try (rename_i hop; rw [hop] at he; simp [eff] at he; done))
            · rename_i hop
              obtain ⟨st2, hst, hyy⟩ := Option.map_eq_some_iff.1 h4
              simp only [Prod.mk.injEq] at hyy
              obtain ⟨_, rfl⟩ := hyy
              unfold astore at hst
              repeat' split at hst
              all_goals first
                | (cases hst; done)
                | (simp only [Option.some.injEq] at hst; rw [← hst]; exact Nat.le_refl _)
            · unfold aconvert amark at h4
              repeat' split at h4
              all_goals first
                | (cases h4; done)
                | (simp only [Option.some.injEq, Prod.mk.injEq] at h4; rw [← h4.2]; exact Nat.le_refl _)
                | (obtain ⟨v, _, hyy⟩ := Option.map_eq_some_iff.1 h4; simp only [Prod.mk.injEq] at hyy; rw [← hyy.2]; exact Nat.le_refl _)
            · rename_i c hop
              split at h4
              · rename_i b hb
                unfold abuiltin at h4
                split at h4
                · obtain ⟨v, _, hyy⟩ := Option.map_eq_some_iff.1 h4
                  simp only [Prod.mk.injEq] at hyy
                  rw [← hyy.2]; exact Nat.le_refl _
                · obtain ⟨v, _, hyy⟩ := Option.map_eq_some_iff.1 h4
                  simp only [Prod.mk.injEq] at hyy
                  rw [← hyy.2]; exact Nat.le_refl _
                · obtain ⟨v, _, hyy⟩ := Option.map_eq_some_iff.1 h4
                  simp only [Prod.mk.injEq] at hyy
                  rw [← hyy.2]; exact Nat.le_refl _
                · split at h4
                  case h_2 => cases h4
                  split at h4
                  case isFalse => cases h4
                  rw [aappend_n h4]; exact Nat.le_refl _
                · cases h4
              · rename_i f hf
                exact absurd ⟨c, f, hop, hf⟩ hcall
              · cases h4
      · rw [unwanted_step ho cw] at h1
        simp only [Option.some.injEq, Prod.mk.injEq] at h1
        rw [← h1.2]; exact Nat.le_refl _
theorem region_sound (hc : CallOK P w0 call) {id : Nat} {ops : Array Oper} {draw : Bool} {fr fr' : AFr} {st st' : St} (h : aregion P call ops draw fr st = some (fr', st')) {σ : Ren} {a : Act} {w : World} (hS : Sim P w0 σ st w) (hF : FR σ fr a) (hd : a.defers = []) (hp : putsOK a.tmps.size ops = true) :
    (Code.region id ops draw).wp P (Post P w0 σ st.n a.tmps.size .normal fr' st') a w := by
  unfold aregion at h
  split at h
  · cases h
  rename_i hdr
  have start : ∀ w1, Sim P w0 σ st w1 → Mid P w0 call (sdOf P ops draw) ops st.n σ σ (List.range ops.size) (fr', st') fr (st.bump ops.size) a w1 a.tmps.size := fun w1 h1 =>
    ⟨h1.bump _, hF, fun j _ => h1.dom _ (by omega), by simp only [St.bump]; omega, h, Sub.refl σ, fun _ _ h => h, hd, rfl⟩
  have fin : ∀ σ1 a1 w1, Mid P w0 call (sdOf P ops draw) ops st.n σ σ1 [] (fr', st') (fr', st').1 (fr', st').2 a1 w1 a.tmps.size → Post P w0 σ st.n a.tmps.size .normal fr' st' .normal a1 w1 := fun σ1 a1 w1 hm =>
    ⟨σ1, trivial, hm.sub, hm.old, hm.sim, hm.frr, hm.defers, hm.size⟩
  cases draw with
  | false =>
    refine wp_region (Mid.straight hc hp fin (List.range ops.size) σ fr _ a w List.nodup_range (fun j hj => List.mem_range.1 hj) (start w hS))
  | true =>
    simp only [Bool.true_and, Bool.not_eq_true', Bool.not_eq_false, Bool.and_eq_true] at hdr
    have hsz : (Array.replicate ops.size false).size = ops.size := by simp
    refine wp_region_any hdr.2 (Mid.drawn hc hdr.1 hp fin ops.size (List.range ops.size) _ σ fr _ a w.drew (by simp) List.pairwise_lt_range hsz (fun j => ?_) (fun i o ho hl => by
      by_cases hi : i < ops.size
      · simp [hi] at hl
      · simp [hi] at hl) (start w.drew hS.drew))
    rw [List.mem_range]
    constructor
    · intro hj
      exact ⟨hj, by simp [hj]⟩
    · exact fun h => h.1
theorem region_n (hc : CallOK P w0 call) {ops : Array Oper} {draw : Bool} {fr fr' : AFr} {st st' : St} (h : aregion P call ops draw fr st = some (fr', st')) : st.n ≤ st'.n := by
  unfold aregion at h
  split at h
  · cases h
  have := arun_n hc _ _ _ _ h
  simp only [St.bump] at this
  omega
theorem AExit.is_normal {e' : Exit} (h : AExit.normal.is e') : e' = .normal := by cases e' <;> simp [AExit.is] at h ⊢
theorem AExit.is_exit {i : Nat} {e' : Exit} (h : (AExit.exit i).is e') : e' = .exit i := by cases e' <;> simp [AExit.is] at h ⊢; exact h.symm
theorem AExit.is_ret {e' : Exit} (h : AExit.ret.is e') : e' = .ret := by cases e' <;> simp [AExit.is] at h ⊢
def CodeOK (P : Program) (w0 : World) (body : AFr → St → Option (AExit × AFr × St)) (c : Code) : Prop :=
  ∀ fr st e fr' st', body fr st = some (e, fr', st') → st.n ≤ st'.n ∧ ∀ σ a w, Sim P w0 σ st w → FR σ fr a → a.defers = [] → codeOK a.tmps.size c = true → c.wp P (Post P w0 σ st.n a.tmps.size e fr' st') a w
theorem loop_n {body : AFr → St → Option (AExit × AFr × St)} {c : Code} (hb : CodeOK P w0 body c) : ∀ (n : Nat) (fr : AFr) (st : St) (e : AExit) (fr' : AFr) (st' : St), aloop body n fr st = some (e, fr', st') → st.n ≤ st'.n
  | 0, _, _, _, _, _, h => by cases h
  | n + 1, fr, st, e, fr', st', h => by
    simp only [aloop] at h
    split at h
    · rename_i fr1 st1 h1
      exact Nat.le_trans (hb _ _ _ _ _ h1).1 (loop_n hb n _ _ _ _ _ h)
    · exact (hb _ _ _ _ _ h).1
theorem loop_sound {body : AFr → St → Option (AExit × AFr × St)} {c : Code} (hb : CodeOK P w0 body c) : ∀ (n : Nat) (fr : AFr) (st : St) (e : AExit) (fr' : AFr) (st' : St), aloop body n fr st = some (e, fr', st') → ∀ σ a w, Sim P w0 σ st w → FR σ fr a → a.defers = [] → codeOK a.tmps.size c = true →
    ∀ (b : Frame) (k : List Item) (cs : List Frame), ∃ e' a' w', Post P w0 σ st.n a.tmps.size e fr' st' e' a' w' ∧ Arrives P (lone (b.at a (.code c :: .inLoop c :: k)) cs w) b k cs e' a' w'
  | 0, _, _, _, _, _, h => by cases h
  | n + 1, fr, st, e, fr', st', h => by
    intro σ a w hS hF hd hp b k cs
    simp only [aloop] at h
    split at h
    · rename_i fr1 st1 h1
      obtain ⟨e1, a1, w1, hP, harr⟩ := (hb _ _ _ _ _ h1).2 σ a w hS hF hd hp b (.inLoop c :: k) cs
      obtain ⟨σ1, he, hs, ho, hS1, hF1, hd1, hz1⟩ := hP
      have := AExit.is_normal he
      subst this
      obtain ⟨e2, a2, w2, hP2, harr2⟩ := loop_sound hb n fr1 st1 e fr' st' h σ1 a1 w1 hS1 hF1 hd1 (by rw [hz1]; exact hp) b k cs
      rw [hz1] at hP2
      exact ⟨e2, a2, w2, hP2.then_ hs ho (hb _ _ _ _ _ h1).1, .of_steps (Steps.trans harr (.one step_inLoop)) harr2⟩
    · rename_i r hne
      obtain ⟨e1, a1, w1, hP, harr⟩ := (hb _ _ _ _ _ h).2 σ a w hS hF hd hp b (.inLoop c :: k) cs
      refine ⟨e1, a1, w1, hP, .pass (x := .inLoop c) rfl (fun _ _ => .inl (fun he1 => ?_)) harr⟩
      obtain ⟨σ1, he, _⟩ := hP
      subst he1
      cases e with
      | normal => exact hne fr' st' h
      | exit i => simp [AExit.is] at he
      | ret => simp [AExit.is] at he
theorem code_sound (hc : CallOK P w0 call) (n : Nat) : ∀ c : Code, CodeOK P w0 (acode P call n c) c
  | .skip => by
    intro fr st e fr' st' h
    simp only [acode, Option.some.injEq, Prod.mk.injEq] at h
    obtain ⟨rfl, rfl, rfl⟩ := h
    exact ⟨Nat.le_refl _, fun σ a w hS hF hd hp => wp_skip ⟨σ, trivial, Sub.refl σ, fun _ _ h => h, hS, hF, hd, rfl⟩⟩
  | .region id ops draw => by
    intro fr st e fr' st' h
    simp only [acode] at h
    obtain ⟨⟨fr1, st1⟩, h1, h2⟩ := Option.map_eq_some_iff.1 h
    simp only [Prod.mk.injEq] at h2
    obtain ⟨rfl, rfl, rfl⟩ := h2
    exact ⟨region_n hc h1, fun σ a w hS hF hd hp => region_sound hc h1 hS hF hd hp⟩
  | .seq x y => by
    intro fr st e fr' st' h
    simp only [acode] at h
    split at h
    · rename_i fr1 st1 h1
      have ix := code_sound hc n x _ _ _ _ _ h1
      have iy := code_sound hc n y _ _ _ _ _ h
      refine ⟨Nat.le_trans ix.1 iy.1, fun σ a w hS hF hd hp => ?_⟩
      simp only [codeOK, Bool.and_eq_true] at hp
      refine wp_seq (wp_mono (ix.2 σ a w hS hF hd hp.1) fun e1 a1 w1 hP => ?_)
      obtain ⟨σ1, he, hs, ho, hS1, hF1, hd1, hz1⟩ := hP
      have := AExit.is_normal he
      subst this
      refine wp_mono (iy.2 σ1 a1 w1 hS1 hF1 hd1 (by rw [hz1]; exact hp.2)) fun e2 a2 w2 hP2 => ?_
      rw [hz1] at hP2
      exact hP2.then_ hs ho ix.1
    · rename_i hne
      have ix := code_sound hc n x _ _ _ _ _ h
      refine ⟨ix.1, fun σ a w hS hF hd hp => ?_⟩
      simp only [codeOK, Bool.and_eq_true] at hp
      refine wp_seq (wp_mono (ix.2 σ a w hS hF hd hp.1) fun e1 a1 w1 hP => ?_)
      cases e with
      | normal => exact absurd h (hne fr' st')
      | exit i =>
        obtain ⟨σ1, he, hr⟩ := hP
        have := AExit.is_exit he
        subst this
        exact ⟨σ1, rfl, hr⟩
      | ret =>
        obtain ⟨σ1, he, hr⟩ := hP
        have := AExit.is_ret he
        subst this
        exact ⟨σ1, trivial, hr⟩
  | .cond c x y => by
    intro fr st e fr' st' h
    simp only [acode] at h
    split at h
    case h_2 => cases h
    rename_i t ht
    have hcv : ∀ {σ : Ren} {a : Act}, FR σ fr a → a.eval c = .bool t := by
      intro σ a hF
      have hv := hF.eval c
      rw [ht] at hv
      generalize a.eval c = cv at hv
      cases hv
      rfl
    cases t with
    | true =>
      simp only [if_true] at h
      have ix := code_sound hc n x _ _ _ _ _ h
      refine ⟨ix.1, fun σ a w hS hF hd hp => ?_⟩
      simp only [codeOK, Bool.and_eq_true] at hp
      exact wp_cond_true (hcv hF) (ix.2 σ a w hS hF hd hp.1)
    | false =>
      simp only [Bool.false_eq_true, if_false] at h
      have ix := code_sound hc n y _ _ _ _ _ h
      refine ⟨ix.1, fun σ a w hS hF hd hp => ?_⟩
      simp only [codeOK, Bool.and_eq_true] at hp
      exact wp_cond_false (hcv hF) (ix.2 σ a w hS hF hd hp.2)
  | .block id x => by
    intro fr st e fr' st' h
    simp only [acode] at h
    split at h
    · rename_i i fr1 st1 h1
      have ix := code_sound hc n x _ _ _ _ _ h1
      by_cases hi : i = id
      · rw [if_pos hi] at h
        simp only [Option.some.injEq, Prod.mk.injEq] at h
        obtain ⟨rfl, rfl, rfl⟩ := h
        refine ⟨ix.1, fun σ a w hS hF hd hp => wp_block (wp_mono (ix.2 σ a w hS hF hd hp) fun e1 a1 w1 hP => ?_)⟩
        obtain ⟨σ1, he, hr⟩ := hP
        have := AExit.is_exit he
        subst this
        simp only [Exit.inBlock, hi, if_true]
        exact ⟨σ1, trivial, hr⟩
      · rw [if_neg hi] at h
        simp only [Option.some.injEq, Prod.mk.injEq] at h
        obtain ⟨rfl, rfl, rfl⟩ := h
        refine ⟨ix.1, fun σ a w hS hF hd hp => wp_block (wp_mono (ix.2 σ a w hS hF hd hp) fun e1 a1 w1 hP => ?_)⟩
        obtain ⟨σ1, he, hr⟩ := hP
        have := AExit.is_exit he
        subst this
        simp only [Exit.inBlock, hi, if_false]
        exact ⟨σ1, rfl, hr⟩
    · rename_i hne
      have ix := code_sound hc n x _ _ _ _ _ h
      refine ⟨ix.1, fun σ a w hS hF hd hp => wp_block (wp_mono (ix.2 σ a w hS hF hd hp) fun e1 a1 w1 hP => ?_)⟩
      cases e with
      | normal =>
        obtain ⟨σ1, he, hr⟩ := hP
        have := AExit.is_normal he
        subst this
        exact ⟨σ1, trivial, hr⟩
      | exit i => exact absurd h (hne i fr' st')
      | ret =>
        obtain ⟨σ1, he, hr⟩ := hP
        have := AExit.is_ret he
        subst this
        exact ⟨σ1, trivial, hr⟩
  | .loop x => by
    intro fr st e fr' st' h
    simp only [acode] at h
    have ix := code_sound hc n x
    refine ⟨loop_n ix n _ _ _ _ _ h, fun σ a w hS hF hd hp b k cs => ?_⟩
    obtain ⟨e1, a1, w1, hP, harr⟩ := loop_sound ix n fr st e fr' st' h σ a w hS hF hd hp b k cs
    exact ⟨e1, a1, w1, hP, .of_steps (.one step_loop) harr⟩
  | .exit id => by
    intro fr st e fr' st' h
    simp only [acode, Option.some.injEq, Prod.mk.injEq] at h
    obtain ⟨rfl, rfl, rfl⟩ := h
    exact ⟨Nat.le_refl _, fun σ a w hS hF hd hp => wp_exit ⟨σ, rfl, Sub.refl σ, fun _ _ h => h, hS, hF, hd, rfl⟩⟩
  | .ret => by
    intro fr st e fr' st' h
    simp only [acode, Option.some.injEq, Prod.mk.injEq] at h
    obtain ⟨rfl, rfl, rfl⟩ := h
    exact ⟨Nat.le_refl _, fun σ a w hS hF hd hp => wp_ret ⟨σ, trivial, Sub.refl σ, fun _ _ h => h, hS, hF, hd, rfl⟩⟩
  | .rangeFunc .. | .scope _ | .label _ | .goto _ | .refuse _ => by
    intro fr st e fr' st' h
    simp [acode] at h
theorem results_run {fn : Func} {σ : Ren} {fr : AFr} {a : Act} {r : AV} {st : St} {w : World} (hS : Sim P w0 σ st w) (hF : FR σ fr a) (h : aresults P st fn fr = some r) : ∃ v, (results fn a.tmps).run P w = .ok v w ∧ VR σ r v := by
  unfold aresults at h
  obtain ⟨xs, hxs, rfl⟩ := Option.map_eq_some_iff.1 h
  have key : ∀ (g : ResultVar → Sem Value), (∀ t, g (.tmp t) = pure (a.tmps.getD t undef)) → (∀ p q, g (.cell p q) = (do loadVar q (← asAddr (a.tmps.getD p undef)))) → ∀ (l : List ResultVar) (ys : List AV), l.mapM (aresult P st fr) = some ys → ∃ vs : List Value, CR σ ys vs ∧ (l.mapM g : Sem (List Value)).run P w = .ok vs w := by
    intro g hg hgc l
    induction l with
    | nil => intro ys hy; simp at hy; subst hy; exact ⟨[], CR.nil σ, rfl⟩
    | cons x r ih =>
      intro ys hy
      rw [List.mapM_cons] at hy
      simp only [Option.bind_eq_bind, Option.pure_def, Option.bind_eq_some_iff, Option.some.injEq] at hy
      obtain ⟨y, h1, ys', h2, rfl⟩ := hy
      obtain ⟨vs, hv1, hv2⟩ := ih ys' h2
      cases x with
      | cell p q =>
        simp only [aresult] at h1
        have hp := (hF p).1
        obtain ⟨u, hu1, hu2⟩ := sim_load hS hp h1
        have hrun : (do loadVar q (← asAddr (a.tmps.getD p undef)) : Sem Value).run P w = .ok u w := by
          rw [← hu1]
          unfold aload at h1
          split at h1
          · rename_i i off hx
            rw [hx] at hp
            generalize a.tmps.getD p undef = pv at hp
            cases hp with
            | ptr hi => simp only [Instr.loadAt, Instr.sureAddr, asAddr, Sem.run_bind, Sem.run_pure, Result.andThen_ok]
          · rename_i i off hx
            rw [hx] at hp
            generalize a.tmps.getD p undef = pv at hp
            cases hp with
            | pl => simp only [Instr.loadAt, Instr.sureAddr, asAddr, Sem.run_bind, Sem.run_pure, Result.andThen_ok]
          · cases h1
        refine ⟨u :: vs, ⟨by simp [hv1.1], fun j x v hx hv => ?_⟩, ?_⟩
        · cases j with
          | zero =>
            simp only [List.getElem?_cons_zero, Option.some.injEq] at hx hv
            subst hx; subst hv
            exact hu2
          | succ j => exact hv1.2 j x v (by simpa using hx) (by simpa using hv)
        · simp only [List.mapM_cons, hgc, Sem.run_bind]
          rw [Sem.run_bind] at hrun
          rw [hrun]
          simp only [Sem.run_pure, Result.andThen_ok, hv2]
      | tmp t =>
        simp only [aresult, Option.some.injEq] at h1
        subst h1
        refine ⟨a.tmps.getD t undef :: vs, ⟨by simp [hv1.1], fun j x v hx hv => ?_⟩, ?_⟩
        · cases j with
          | zero =>
            simp only [List.getElem?_cons_zero, Option.some.injEq] at hx hv
            subst hx; subst hv
            exact (hF t).1
          | succ j => exact hv1.2 j x v (by simpa using hx) (by simpa using hv)
        · simp only [List.mapM_cons, hg, Sem.run_bind, Sem.run_pure, Result.andThen_ok, hv2]
  have hrun2 : ∃ vs : List Value, CR σ xs vs ∧ (results fn a.tmps).run P w = .ok (if h : vs.toArray.size = 1 then vs.toArray[0] else .tuple vs.toArray) w := by
    obtain ⟨vs, h1, h2⟩ := key (fun | .tmp t => pure (a.tmps.getD t undef) | .cell x t => do loadVar t (← asAddr (a.tmps.getD x undef))) (fun t => rfl) (fun p q => rfl) fn.results.toList xs hxs
    refine ⟨vs, h1, ?_⟩
    unfold results
    rw [Array.mapM_eq_mapM_toList]
    simp only [map_eq_pure_bind, Sem.run_bind]
    erw [h2]
    simp only [Result.andThen_ok, Sem.run_pure]
  obtain ⟨vs, hcr, hrun2⟩ := hrun2
  refine ⟨_, hrun2, ?_⟩
  have hl := hcr.1
  split
  · rename_i x
    have : vs.length = 1 := by simpa using hl.symm
    rw [dif_pos (by simpa using this)]
    have h0 : 0 < vs.length := by omega
    exact hcr.2 0 x _ rfl (by simp [h0])
  · rename_i hne
    have hn1 : ¬ vs.toArray.size = 1 := by
      intro he
      simp only [List.size_toArray] at he
      rw [← hl] at he
      match xs, he with
      | [x], _ => exact hne x rfl
    rw [dif_neg hn1]
    exact .tup (by simpa using hl) (fun j x v hx hv => hcr.2 j x v hx (by simpa using hv))
theorem call_sound (P : Program) (w0 : World) : ∀ k, CallOK P w0 (acall P k)
  | 0 => by
    intro f xs st r st' h
    cases h
  | k + 1 => by
    intro f xs st r st' h
    simp only [acall] at h
    split at h
    case h_2 => cases h
    rename_i fn hfn
    unfold afunc at h
    split at h
    case h_2 => cases h
    rename_i c hbody
    split at h
    case isFalse => cases h
    rename_i hok
    simp only [Bool.and_eq_true, bne_iff_ne, ne_eq] at hok
    have hcode := code_sound (call_sound P w0 k) k c
    have hsol := hok.2
    have hok := hok.1
    have go : ∀ e fr', (e = .normal ∨ e = .ret) → acode P (acall P k) k c (fun t => xs.getD t (.pl undef)) st = some (e, fr', st') → aresults P st' fn fr' = some r →
        st.n ≤ st'.n ∧ ∀ σ w vs, Sim P w0 σ st w → CR σ xs vs → Calls P f vs.toArray w (fun e w' => ∃ v σ', e = .returned v ∧ Sub σ σ' ∧ (∀ i, i < st.n → σ i = none → σ' i = none) ∧ Sim P w0 σ' st' w' ∧ VR σ' r v) := by
      intro e fr' he h1 h2
      have hh := hcode _ _ _ _ _ h1
      refine ⟨hh.1, fun σ w vs hS hcr => ?_⟩
      have hF : FR σ (fun t => xs.getD t (.pl undef)) { tmps := vs.toArray ++ Array.replicate (fn.ntmps - vs.toArray.size) undef, defers := [] } := by
        intro t
        by_cases ht : t < vs.length
        · have hx := List.getElem?_eq_getElem (l := xs) (i := t) (by rw [hcr.1]; exact ht)
          have hv := List.getElem?_eq_getElem (l := vs) (i := t) ht
          have := hcr.2 t _ _ hx hv
          have e : (vs.toArray ++ Array.replicate (fn.ntmps - vs.toArray.size) undef).getD t undef = vs[t] := by simp [Array.getElem?_append, ht]
          show VR σ (xs.getD t (.pl undef)) _ ∧ (xs.getD t (.pl undef)).solid = true
          rw [e]
          refine ⟨by simpa [List.getD, hx] using this, ?_⟩
          simp only [List.getD, hx, Option.getD_some]
          exact List.all_eq_true.1 hsol _ (List.mem_of_getElem? hx)
        · have hx : xs[t]? = none := List.getElem?_eq_none (by rw [hcr.1]; omega)
          have : (vs.toArray ++ Array.replicate (fn.ntmps - vs.toArray.size) undef).getD t undef = undef := by
            by_cases h3 : t - vs.length < fn.ntmps - vs.length
            · simp [ht, h3, Array.getElem?_append, Array.getElem?_replicate]
            · simp [ht, h3, Array.getElem?_append, Array.getElem?_replicate]
          show VR σ (xs.getD t (.pl undef)) _ ∧ (xs.getD t (.pl undef)).solid = true
          rw [this]
          simp only [List.getD, hx, Option.getD_none]
          exact ⟨.pl _, rfl⟩
      have hsize : codeOK (vs.toArray ++ Array.replicate (fn.ntmps - vs.toArray.size) undef).size c = true := by
        have mono : ∀ (c : Code) (a b : Nat), a ≤ b → codeOK a c = true → codeOK b c = true := by
          intro c
          induction c with
          | region id ops dr =>
            intro a b hab h
            simp only [codeOK, putsOK] at h ⊢
            refine Array.all_eq_true_iff_forall_mem.2 fun o ho => ?_
            have := Array.all_eq_true_iff_forall_mem.1 h o ho
            cases hd : o.dst with
            | none => rfl
            | some d =>
              rw [hd] at this
              have h2 : d < a := by simpa using this
              have h3 : d < b := Nat.lt_of_lt_of_le h2 hab
              simpa using h3
          | seq x y ihx ihy => intro a b hab h; simp only [codeOK, Bool.and_eq_true] at h ⊢; exact ⟨ihx a b hab h.1, ihy a b hab h.2⟩
          | cond q x y ihx ihy => intro a b hab h; simp only [codeOK, Bool.and_eq_true] at h ⊢; exact ⟨ihx a b hab h.1, ihy a b hab h.2⟩
          | block id x ih => intro a b hab h; exact ih a b hab h
          | loop x ih => intro a b hab h; exact ih a b hab h
          | _ => intros; rfl
        refine mono c fn.ntmps _ ?_ hok.1
        simp
        omega
      refine calls_of_wp hfn hbody (wp_mono (hh.2 σ _ w hS hF rfl hsize) fun e1 a1 w1 hP => ?_)
      obtain ⟨σ1, hee, hs, ho, hS1, hF1, hd1, hz1⟩ := hP
      obtain ⟨v, hv, hV⟩ := results_run (P := P) hS1 hF1 h2
      rcases he with rfl | rfl
      · have := AExit.is_normal hee
        subst this
        exact ⟨hd1, v, hv, v, σ1, rfl, hs, ho, hS1, hV⟩
      · have := AExit.is_ret hee
        subst this
        exact ⟨hd1, v, hv, v, σ1, rfl, hs, ho, hS1, hV⟩
    refine ⟨⟨fn, hfn, by simpa using hok.2, by rw [hbody]; rfl⟩, ?_⟩
    split at h
    · rename_i fr1 st1 h1
      obtain ⟨r1, hr1, hyy⟩ := Option.map_eq_some_iff.1 h
      simp only [Prod.mk.injEq] at hyy
      obtain ⟨rfl, rfl⟩ := hyy
      exact go _ _ (.inl rfl) h1 hr1
    · rename_i fr1 st1 h1
      obtain ⟨r1, hr1, hyy⟩ := Option.map_eq_some_iff.1 h
      simp only [Prod.mk.injEq] at hyy
      obtain ⟨rfl, rfl⟩ := hyy
      exact go _ _ (.inr rfl) h1 hr1
    · cases h
end
/-- What came in, by names: a name is its block's number. -/
def absV : Value → AV
  | .slice (some ⟨b, o, none⟩) len cap => if len ≤ cap ∧ cap ≤ maxLen then .sl b o len 0 else .pl (.slice (some ⟨b, o, none⟩) len cap)
  | .pointer (some ⟨b, o, none⟩) => .ptr b o
  | v => .pl v
def reach (w : World) : Value → Bool
  | .slice (some a) _ _ => decide (a.block < w.heap.size)
  | .pointer (some a) => decide (a.block < w.heap.size)
  | _ => true
def absSt (w : World) : St where
  n := w.heap.size
  get := fun i => match w.heap[i]? with
    | some (.cells c e _) => some ⟨c.toList.map fun v => if reach w v = true then absV v else .pl v, e, false, i⟩
    | _ => none
def renSt (w : World) : Ren := fun i => if i < w.heap.size then some ⟨i, 0, 0, 0, false⟩ else none
theorem absV_ok (w : World) (v : Value) (h : reach w v = true) : VR (renSt w) (absV v) v := by
  unfold absV
  split
  · rename_i b o len cap
    simp only [reach, decide_eq_true_eq] at h
    split
    · rename_i hc
      exact .sl (l := ⟨b, 0, 0, 0, false⟩) (by simp [renSt, h]) hc.1 hc.2 (.inr (Nat.zero_add _).symm) (fun hf => by cases hf)
    · exact .pl _
  · rename_i b o
    simp only [reach, decide_eq_true_eq] at h
    have := VR.ptr (σ := renSt w) (i := b) (off := o) (l := ⟨b, 0, 0, 0, false⟩) (by simp [renSt, h])
    simpa using this
  · exact .pl _
theorem absSt_sim (P : Program) (w : World) (hg : P.globals.size ≤ w.heap.size) : Sim P w (renSt w) (absSt w) w := by
  refine ⟨Below.refl _ _, fun i hi => ?_, fun i o hi => ?_, fun i l hi => ?_, fun i j o o' l l' hi hj hli hlj hown _ => ?_, fun g hl => by simp only [renSt]; rw [if_pos (by omega)]⟩
  · have : ¬ i < w.heap.size := by simp only [absSt] at hi; omega
    simp [renSt, this]
  · simp only [absSt] at hi
    split at hi
    · rename_i c e fz hb
      simp only [Option.some.injEq] at hi
      subst hi
      have hlt : i < w.heap.size := (Array.getElem?_eq_some_iff.1 hb).1
      refine ⟨⟨i, 0, 0, 0, false⟩, by simp [renSt, hlt], rfl, c, e, fz, hb, ?_, fun hf => by cases hf⟩
      refine ⟨by simp, fun j x v hx hv => ?_⟩
      rw [List.getElem?_map] at hx
      simp only [List.drop_zero, List.length_map] at hv
      rw [List.take_of_length_le (Nat.le_refl _)] at hv
      rw [hv] at hx
      simp only [Option.map_some, Option.some.injEq] at hx
      subst hx
      split
      · rename_i hcond
        exact absV_ok w v hcond
      · exact .pl v
    · cases hi
  · simp only [renSt] at hi
    split at hi
    · rename_i hlt
      simp only [Option.some.injEq] at hi
      subst hi
      exact .inl ⟨rfl, hlt⟩
    · cases hi
  · simp only [renSt] at hli
    split at hli
    · simp only [Option.some.injEq] at hli
      subst hli
      cases hown
    · cases hli
/-- From the outside. -/
theorem run_sound (P : Program) (w : World) (hg : P.globals.size ≤ w.heap.size) {k : Nat} {f : FuncId} {xs : List AV} {vs : List Value} {r : AV} {st' : St} (hx : CR (renSt w) xs vs) (h : acall P k f xs (absSt w) = some (r, st')) :
    Calls P f vs.toArray w (fun e w' => ∃ v, e = .returned v ∧ Below w.heap.size w w' ∧ ∃ σ', VR σ' r v) :=
  ((call_sound P w k f xs _ r st' h).2.2 (renSt w) w vs (absSt_sim P w hg) hx).mono fun e w' he => by
    obtain ⟨v, σ', rfl, _, _, hS, hV⟩ := he
    exact ⟨v, rfl, hS.below, σ', hV⟩
theorem run_true (P : Program) (w : World) (hg : P.globals.size ≤ w.heap.size) {k : Nat} {f : FuncId} {xs : List AV} {vs : List Value} {st' : St} (hx : CR (renSt w) xs vs) (h : acall P k f xs (absSt w) = some (.pl (.bool true), st')) :
    Calls P f vs.toArray w (fun e w' => e = .returned (.bool true) ∧ Below w.heap.size w w') :=
  (run_sound P w hg hx h).mono fun e w' he => by
    obtain ⟨v, rfl, hB, σ', hV⟩ := he
    cases hV
    exact ⟨rfl, hB⟩
end Go.Proofs.YthjfncppiffnmaaDoor.Ra
