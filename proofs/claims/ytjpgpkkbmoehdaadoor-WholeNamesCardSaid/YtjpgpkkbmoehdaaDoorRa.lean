/- A machine of values by names: memory is told by names of objects, an append makes a new name and the elder one falls away. What it answers, the machine answers, whatever the tape. -/
import Derived.Orders
import Derived.Laws.AppendOwn
import Derived.Laws.IdiomCopy
import Derived.Laws.IdiomStrings
import Derived.Laws.StructEq
import Derived.Laws.Pointers
import Derived.Laws.Cover3
import Derived.Laws.BytesString
import Derived.Laws.OwnMore
import Derived.Below
namespace Go.Proofs.YtjpgpkkbmoehdaaDoor.Ra
open Go Go.RowKit
set_option linter.unusedVariables false
set_option linter.unusedSimpArgs false

/-- A value: plain (no memory in it), a slice (object, place, length, an element's cells; 0: not known, then it is only read), an address, a function with what it has caught, a struct by its cells, several results; 'top': anything. -/
inductive AV where
  | pl (v : Value)
  | sl (id off len es : Nat)
  | ptr (id off : Nat)
  | fn (f : FuncId) (caps : List AV)
  | agg (xs : List AV)
  | tup (xs : List AV)
  | top
  deriving Inhabited
def AV.one : AV → Bool
  | .pl v => v.oneCell'
  | .agg _ | .tup _ | .top => false
  | _ => true
def AV.solid : AV → Bool
  | .top => false
  | _ => true
def AV.cells : AV → List AV
  | .agg xs => xs
  | .pl v => v.cells.toList.map .pl
  | x => [x]
structure AObj where
  cells : List AV
  elem : TypeId
  own : Bool
  grp : Nat
/-- A bounded row of messages: its places, what waits, is it closed. -/
structure AInb where
  cap : Nat
  row : List AV
  closed : Bool
structure St where
  n : Nat
  get : Nat → Option AObj
  ch : Nat → Option AInb
def St.bump (st : St) (k : Nat) : St := { st with n := st.n + k }
def St.put (st : St) (i : Nat) (o : AObj) : St := { st with get := fun j => if j = i then some o else st.get j }
/-- The places from off on, n of them, may have been turned. -/
def topR (xs : List AV) (off n : Nat) : List AV := xs.take off ++ List.replicate (min n (xs.length - off)) .top ++ xs.drop (off + n)
/-- Objects of one group may lie in one block, place by place. -/
def St.touch (st : St) (g off n : Nat) : St := { st with get := fun j => (st.get j).map fun o => if o.grp = g then { o with cells := topR o.cells off n } else o }
def St.kill (st : St) (g : Nat) : St := { st with get := fun j => (st.get j).bind fun o => if o.grp = g then none else some o }

/-- Where an object lies: its block, its beginning in it, the block's cells, an element's cells; may it be written. -/
structure Loc where
  blk : Nat
  base : Nat
  lim : Nat
  esz : Nat
  own : Bool
abbrev Ren := Nat → Option Loc

inductive VR (σ : Ren) : AV → Value → Prop
  | pl (v : Value) : VR σ (.pl v) v
  | sl {i off len es cap o : Nat} {l : Loc} (h : σ i = some l) (hc : len ≤ cap) (hm : cap ≤ maxLen) (ho : cap = 0 ∨ o = l.base + off) (hl : l.own = true → es = l.esz ∧ 0 < es ∧ l.base + off + cap * es ≤ l.lim) : VR σ (.sl i off len es) (.slice (some ⟨l.blk, o, none⟩) len cap)
  | ptr {i off : Nat} {l : Loc} (h : σ i = some l) : VR σ (.ptr i off) (.pointer (some ⟨l.blk, l.base + off, none⟩))
  | fn {f : FuncId} {xs : List AV} {vs : Array Value} (hn : xs.length = vs.size) (h : ∀ (i : Nat) (x : AV) (v : Value), xs[i]? = some x → vs[i]? = some v → VR σ x v) : VR σ (.fn f xs) (.func (.func f) #[] vs)
  | agg {xs : List AV} {vs : Array Value} (hn : xs.length = vs.size) (h : ∀ (i : Nat) (x : AV) (v : Value), xs[i]? = some x → vs[i]? = some v → VR σ x v) : VR σ (.agg xs) (.agg vs)
  | tup {xs : List AV} {vs : Array Value} (hn : xs.length = vs.size) (h : ∀ (i : Nat) (x : AV) (v : Value), xs[i]? = some x → vs[i]? = some v → VR σ x v) : VR σ (.tup xs) (.tuple vs)
  | top (v : Value) : VR σ .top v

def Sub (σ σ' : Ren) : Prop := ∀ i l, σ i = some l → σ' i = some l
theorem Sub.refl (σ : Ren) : Sub σ σ := fun _ _ h => h
theorem Sub.trans {σ σ' σ'' : Ren} (h : Sub σ σ') (k : Sub σ' σ'') : Sub σ σ'' := fun i l hi => k i l (h i l hi)
theorem VR.sub {σ σ' : Ren} (hs : Sub σ σ') {x : AV} {v : Value} (h : VR σ x v) : VR σ' x v := by
  induction h with
  | pl v => exact .pl v
  | sl h hc hm ho hl => exact .sl (hs _ _ h) hc hm ho hl
  | ptr h => exact .ptr (hs _ _ h)
  | fn hn _ ih => exact .fn hn ih
  | agg hn _ ih => exact .agg hn ih
  | tup hn _ ih => exact .tup hn ih
  | top v => exact .top v
theorem VR.one {σ : Ren} {x : AV} {v : Value} (h : VR σ x v) (h1 : x.one = true) : v.oneCell' = true := by
  cases h <;> first | rfl | exact h1 | (simp [AV.one] at h1)

/-- Cell by cell. -/
def CR (σ : Ren) (xs : List AV) (vs : List Value) : Prop := xs.length = vs.length ∧ ∀ (j : Nat) (x : AV) (v : Value), xs[j]? = some x → vs[j]? = some v → VR σ x v
theorem CR.sub {σ σ' : Ren} (hs : Sub σ σ') {xs : List AV} {vs : List Value} (h : CR σ xs vs) : CR σ' xs vs := ⟨h.1, fun j x v hx hv => (h.2 j x v hx hv).sub hs⟩
theorem CR.nil (σ : Ren) : CR σ [] [] := ⟨rfl, fun j x v hx => by simp at hx⟩
theorem CR.pls (σ : Ren) (vs : List Value) : CR σ (vs.map .pl) vs := ⟨by simp, fun j x v hx hv => by
  rw [List.getElem?_map, hv] at hx
  simp at hx
  subst hx
  exact .pl v⟩
theorem CR.at {σ : Ren} {xs : List AV} {vs : List Value} (h : CR σ xs vs) {j : Nat} {x : AV} (hx : xs[j]? = some x) : ∃ v, vs[j]? = some v ∧ VR σ x v := by
  obtain ⟨hj, _⟩ := List.getElem?_eq_some_iff.1 hx
  have hj2 : j < vs.length := by rw [← h.1]; exact hj
  exact ⟨vs[j], List.getElem?_eq_getElem hj2, h.2 j x _ hx (List.getElem?_eq_getElem hj2)⟩
theorem CR.take {σ : Ren} {xs : List AV} {vs : List Value} (h : CR σ xs vs) (n : Nat) : CR σ (xs.take n) (vs.take n) := ⟨by simp [h.1], fun j x v hx hv => by
  rw [List.getElem?_take] at hx hv
  split at hx
  · rw [if_pos (by assumption)] at hv; exact h.2 j x v hx hv
  · cases hx⟩
theorem CR.drop {σ : Ren} {xs : List AV} {vs : List Value} (h : CR σ xs vs) (n : Nat) : CR σ (xs.drop n) (vs.drop n) := ⟨by simp [h.1], fun j x v hx hv => by
  rw [List.getElem?_drop] at hx hv
  exact h.2 _ x v hx hv⟩
theorem CR.append {σ : Ren} {xs ys : List AV} {vs us : List Value} (h : CR σ xs vs) (k : CR σ ys us) : CR σ (xs ++ ys) (vs ++ us) := ⟨by simp [h.1, k.1], fun j x v hx hv => by
  rw [List.getElem?_append] at hx hv
  rw [h.1] at hx
  split at hx
  · rw [if_pos (by assumption)] at hv; exact h.2 j x v hx hv
  · rw [if_neg (by assumption)] at hv; exact k.2 _ x v hx hv⟩
theorem CR.ones {σ : Ren} {xs : List AV} {vs : List Value} (h : CR σ xs vs) (h1 : xs.all AV.one = true) : ∀ v ∈ vs, v.oneCell' = true := by
  intro v hv
  obtain ⟨j, hj⟩ := List.mem_iff_getElem?.1 hv
  obtain ⟨hlt, _⟩ := List.getElem?_eq_some_iff.1 hj
  have hx := List.getElem?_eq_getElem (l := xs) (i := j) (by rw [h.1]; exact hlt)
  exact (h.2 j _ v hx hj).one (List.all_eq_true.1 h1 _ (List.mem_of_getElem? hx))
theorem VR.cells {σ : Ren} {x : AV} {v : Value} (h : VR σ x v) (hx : x.solid = true) : CR σ x.cells v.cells.toList := by
  cases h with
  | top v => cases hx
  | pl v => exact CR.pls σ _
  | agg hn h => exact ⟨by simpa [AV.cells, Value.cells] using hn, fun j x v hx hv => h j x v hx (by simpa [Value.cells] using hv)⟩
  | sl a b c d e => exact ⟨rfl, fun j x v hx hv => by cases j with | zero => simp [AV.cells, Value.cells] at hx hv; subst hx; subst hv; exact .sl a b c d e | succ j => simp [AV.cells] at hx⟩
  | ptr a => exact ⟨rfl, fun j x v hx hv => by cases j with | zero => simp [AV.cells, Value.cells] at hx hv; subst hx; subst hv; exact .ptr a | succ j => simp [AV.cells] at hx⟩
  | fn a b => exact ⟨rfl, fun j x v hx hv => by cases j with | zero => simp [AV.cells, Value.cells] at hx hv; subst hx; subst hv; exact .fn a b | succ j => simp [AV.cells] at hx⟩
  | tup a b => exact ⟨rfl, fun j x v hx hv => by cases j with | zero => simp [AV.cells, Value.cells] at hx hv; subst hx; subst hv; exact .tup a b | succ j => simp [AV.cells] at hx⟩

theorem topR_len (xs : List AV) (off n : Nat) : (topR xs off n).length = xs.length := by
  simp only [topR, List.length_append, List.length_take, List.length_replicate, List.length_drop]
  omega
theorem topR_at (xs : List AV) (off n j : Nat) (x : AV) (h : (topR xs off n)[j]? = some x) : x = .top ∨ (xs[j]? = some x ∧ (j < off ∨ off + n ≤ j)) := by
  have hj : j < xs.length := by rw [← topR_len xs off n]; exact (List.getElem?_eq_some_iff.1 h).1
  unfold topR at h
  by_cases h1 : j < off
  · rw [List.append_assoc, List.getElem?_append_left (by rw [List.length_take]; omega), List.getElem?_take, if_pos h1] at h
    exact .inr ⟨h, .inl h1⟩
  · by_cases h2 : j < off + n
    · rw [List.append_assoc, List.getElem?_append_right (by rw [List.length_take]; omega), List.length_take, List.getElem?_append_left (by rw [List.length_replicate]; omega), List.getElem?_replicate] at h
      split at h
      · exact .inl (by simpa using h.symm)
      · cases h
    · rw [List.getElem?_append_right (by rw [List.length_append, List.length_take, List.length_replicate]; omega), List.getElem?_drop] at h
      refine .inr ⟨?_, .inr (by omega)⟩
      rw [← h]
      congr 1
      rw [List.length_append, List.length_take, List.length_replicate]
      omega
/-- Cells that have turned within the places alone. -/
theorem CR.topR {σ : Ren} {xs : List AV} {vs us : List Value} (h : CR σ xs vs) (off n : Nat) (hl : us.length = vs.length) (he : ∀ j, (j < off ∨ off + n ≤ j) → us[j]? = vs[j]?) : CR σ (topR xs off n) us :=
  ⟨by rw [topR_len, h.1, hl], fun j x v hx hv => by
    rcases topR_at xs off n j x hx with rfl | ⟨h1, h2⟩
    · exact .top v
    · exact h.2 j x v h1 (by rw [← he j h2]; exact hv)⟩
theorem topR_short (xs : List AV) (off n : Nat) (h : xs.length ≤ off) : topR xs off n = xs := by
  unfold _root_.Go.Proofs.YtjpgpkkbmoehdaaDoor.Ra.topR
  rw [List.take_of_length_le h, List.drop_of_length_le (by omega), Nat.sub_eq_zero_of_le h]
  simp
/-- An object in memory. -/
def ObjOK (P : Program) (σ : Ren) (w : World) (l : Loc) (o : AObj) : Prop :=
  o.own = l.own ∧ ∃ c e fz, w.heap[l.blk]? = some (.cells c e fz) ∧ CR σ o.cells ((c.toList.drop l.base).take o.cells.length) ∧
    (l.own = true → fz = (0, 0) ∧ e = o.elem ∧ c.size = l.lim ∧ (P.info? e).map (·.size) = some l.esz ∧ l.base + o.cells.length ≤ c.size)
/-- A bounded row in memory: its struct's block, the channel's block ('lim'). -/
def InbOK (w0 : World) (σ : Ren) (w : World) (l : Loc) (c : AInb) : Prop :=
  l.own = true ∧ l.base = 0 ∧ w0.heap.size ≤ l.blk ∧ w0.heap.size ≤ l.lim ∧ (∃ e, w.heap[l.blk]? = some (.cells #[.chan (some l.lim), .bool c.closed] e (0, 0))) ∧ ∃ buf s q, w.heap[l.lim]? = some (.chan c.cap buf c.closed s q false) ∧ CR σ c.row buf.toList
structure Inbs (w0 : World) (σ : Ren) (st : St) (w : World) : Prop where
  chan : ∀ i c, st.ch i = some c → ∃ l, σ i = some l ∧ InbOK w0 σ w l c
  sep : ∀ i c l j o l', st.ch i = some c → σ i = some l → st.get j = some o → σ j = some l' → l'.blk ≠ l.blk
  dis : ∀ i j c c' l l', i ≠ j → st.ch i = some c → st.ch j = some c' → σ i = some l → σ j = some l' → l.blk ≠ l'.blk ∧ l.lim ≠ l'.lim
theorem Inbs.step {w0 w w' : World} {σ σ' : Ren} {st st' : St} (h : Inbs w0 σ st w) (hs : Sub σ σ') (hch : st'.ch = st.ch) (hheap : ∀ i c l, st.ch i = some c → σ i = some l → InbOK w0 σ w l c → w'.heap[l.blk]? = w.heap[l.blk]? ∧ w'.heap[l.lim]? = w.heap[l.lim]?)
    (hobj : ∀ j o l', st'.get j = some o → σ' j = some l' → (∃ k ok lk, st.get k = some ok ∧ σ k = some lk ∧ lk.blk = l'.blk) ∨ w.heap.size ≤ l'.blk) : Inbs w0 σ' st' w' := by
  have key : ∀ i c l, st'.ch i = some c → σ' i = some l → st.ch i = some c ∧ σ i = some l := fun i c l h1 h2 => by
    rw [hch] at h1
    obtain ⟨l0, h3, -⟩ := h.chan i c h1
    have := hs i l0 h3
    rw [h2] at this
    cases this
    exact ⟨h1, h3⟩
  refine ⟨fun i c h1 => ?_, fun i c l j o l' h1 h2 h3 h4 => ?_, fun i j c c' l l' hne h1 h2 h3 h4 => ?_⟩
  · rw [hch] at h1
    obtain ⟨l, h3, h4⟩ := h.chan i c h1
    obtain ⟨q1, q2⟩ := hheap i c l h1 h3 h4
    obtain ⟨g1, g2, g3, g4, ⟨e, g5⟩, buf, s, q, g6, g7⟩ := h4
    exact ⟨l, hs i l h3, g1, g2, g3, g4, ⟨e, q1.trans g5⟩, buf, s, q, q2.trans g6, g7.sub hs⟩
  · obtain ⟨k1, k2⟩ := key i c l h1 h2
    rcases hobj j o l' h3 h4 with ⟨k, ok, lk, m1, m2, m4⟩ | hn
    · rw [← m4]; exact h.sep i c l k ok lk k1 k2 m1 m2
    · obtain ⟨l0, h6, -, -, -, -, ⟨e, g5⟩, -⟩ := h.chan i c k1
      rw [k2] at h6
      cases h6
      have := (Array.getElem?_eq_some_iff.1 g5).1
      omega
  · obtain ⟨k1, k2⟩ := key i c l h1 h3
    obtain ⟨k3, k4⟩ := key j c' l' h2 h4
    exact h.dis i j c c' l l' hne k1 k3 k2 k4
structure Sim (P : Program) (w0 : World) (σ : Ren) (st : St) (w : World) : Prop where
  below : Below w0.heap.size w0 w
  dom : ∀ i, st.n ≤ i → σ i = none
  obj : ∀ i o, st.get i = some o → ∃ l, σ i = some l ∧ ObjOK P σ w l o
  place : ∀ i l, σ i = some l → (l.own = false ∧ l.blk < w.heap.size) ∨ (l.own = true ∧ w0.heap.size ≤ l.blk ∧ l.blk < w.heap.size)
  alias : ∀ i j o o' l l', st.get i = some o → st.get j = some o' → σ i = some l → σ j = some l' → l.own = true → l.blk = l'.blk → o.grp = o'.grp ∧ l.base = l'.base
  init : ∀ g, g < P.globals.size → σ g = some ⟨g, 0, 0, 0, false⟩
  inbs : Inbs w0 σ st w

abbrev AFr := Nat → AV
def FR (σ : Ren) (fr : AFr) (a : Act) : Prop := ∀ t, VR σ (fr t) (a.tmps.getD t undef) ∧ (fr t).solid = true
def aput (fr : AFr) (d : Option Tmp) (v : AV) : AFr := match d with | some d => fun t => if t = d then v else fr t | none => fr
def aeval (fr : AFr) : Operand → AV
  | .tmp t => fr t
  | .const v => .pl v
  | .global g => .pl (.pointer (some ⟨g, 0, none⟩))
  | .func f => .fn f []
theorem FR.eval {σ : Ren} {fr : AFr} {a : Act} (h : FR σ fr a) (x : Operand) : VR σ (aeval fr x) (a.eval x) := by
  cases x with
  | tmp t => exact (h t).1
  | const v => exact .pl v
  | global g => exact .pl _
  | func f => exact .fn rfl (fun i x v hx => by simp at hx)
theorem FR.evalSolid {σ : Ren} {fr : AFr} {a : Act} (h : FR σ fr a) (x : Operand) : (aeval fr x).solid = true := by
  cases x with
  | tmp t => exact (h t).2
  | _ => rfl
theorem FR.sub {σ σ' : Ren} (hs : Sub σ σ') {fr : AFr} {a : Act} (h : FR σ fr a) : FR σ' fr a := fun t => ⟨(h t).1.sub hs, (h t).2⟩
theorem FR.put {σ : Ren} {fr : AFr} {a : Act} (h : FR σ fr a) {d : Option Tmp} {v : AV} {u : Value} (hv : VR σ v u) (hsol : v.solid = true) (hd : ∀ t, d = some t → t < a.tmps.size) : FR σ (aput fr d v) (a.put d u) := by
  intro t
  cases d with
  | none => exact h t
  | some d =>
    have hlt := hd d rfl
    by_cases e : t = d
    · subst e
      exact ⟨by simpa [aput, Act.put, hlt] using hv, by simpa [aput] using hsol⟩
    · have := h t
      simp [aput, Act.put, e, Array.getElem?_setIfInBounds_ne (Ne.symm e)] at this ⊢
      exact this

def putsOK (nt : Nat) (ops : Array Oper) : Bool := ops.all fun o => match o.dst with | some d => decide (d < nt) | none => true
def codeOK (nt : Nat) : Code → Bool
  | .region _ ops _ => putsOK nt ops
  | .seq a b => codeOK nt a && codeOK nt b
  | .cond _ a b => codeOK nt a && codeOK nt b
  | .block _ c => codeOK nt c
  | .loop c => codeOK nt c
  | _ => true

inductive AExit where
  | normal
  | exit (id : Nat)
  | ret
  deriving DecidableEq
def AExit.is : AExit → Exit → Prop
  | .normal, .normal => True
  | .exit i, .exit j => i = j
  | .ret, .ret => True
  | _, _ => False

abbrev ACall := FuncId → List AV → St → Option (AV × St)

def awanted (ops : Array Oper) (fr : AFr) (o : Oper) : Bool :=
  match o.guard with
  | none => true
  | some (j, want) => match (ops[j]?).bind (·.dst) with
    | none => false
    | some d => match fr d with | .pl (.bool b) => b == want | _ => false
end Go.Proofs.YtjpgpkkbmoehdaaDoor.Ra
