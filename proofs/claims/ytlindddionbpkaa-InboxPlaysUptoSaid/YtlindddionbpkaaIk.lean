/- leatlaw26.InboxPlays: its parts. -/
import Derived.Test.YtlindddionbpkaaIj
import Derived.Test.YtlindddionbpkaaIe
namespace Go.Proofs.Ytlindddionbpkaa.Ra
open Go Go.RowKit
set_option linter.unusedVariables false
set_option linter.unusedSimpArgs false
set_option maxRecDepth 10000
abbrev OQ : TypeId := 44
abbrev OpQ : Type := Int × List (List Int)
def opJ : EK OpQ where
  s := 2
  R := fun st K cs o => ∃ p, cs = [i64 o.1, p] ∧ RdE rowK st K p o.2
  keep := fun hk hd c x ⟨v, h1, h2⟩ => ⟨v, h1, h2.keep hk hd⟩
  mono := fun hk c x ⟨v, h1, h2⟩ => ⟨v, h1, h2.mono hk⟩
  lt := fun hw c x ⟨v, h1, h2⟩ => ⟨v, h1, h2.lt hw⟩
  one := fun c x ⟨v, h1, h2⟩ => by
    subst h1
    simp [h2.cell.2]
    rfl
  len := fun c x ⟨v, h1, h2⟩ => by subst h1; rfl
theorem TOQ : TF Try.prog 39 OQ opJ.s 32 := TF.of (by kernel_rfl) (by kernel_rfl) (by decide)
theorem szOQ : szOf Try.prog OQ = some 2 := by kernel_rfl
theorem zOQ : zcells Try.prog OQ = some [i64 0, .pl (.slice none 0 0)] := by kernel_rfl
theorem fq0 (p : Nat) : afieldAddr Try.prog OQ (.ptr p 0) 0 = some (.ptr p 0) := by kernel_rfl
theorem fq1 (p : Nat) : afieldAddr Try.prog OQ (.ptr p 0) 1 = some (.ptr p 1) := by kernel_rfl
theorem oq_load {st : St} {K : Nat → Prop} {v : AV} {os : List OpQ} (h : RdE opJ st K v os) (j : Nat) (hj : j < os.length) :
    ∃ p pv, aindexAddr Try.prog 39 v (i64 j) = some p ∧ p.solid = true ∧ aload Try.prog st OQ p = some (.agg [i64 os[j].1, pv]) ∧ RdE rowK st K pv os[j].2 ∧ pv.solid = true ∧ pv.one = true := by
  obtain ⟨p, cs, h1, h2, h3, pv, rfl, h5⟩ := h.load TOQ Try.underlying44 rfl .i64 j hj
  exact ⟨p, pv, h1, h2, h3, h5, h5.solid, h5.cell.2⟩
/-- An op, laid in a variable. -/
def OQb (st : St) (p g : Nat) (k : Int) (pv : AV) : Prop := st.get p = some ⟨[i64 k, pv], OQ, true, g⟩
theorem OQb.lds {st : St} {p g : Nat} {k : Int} {pv : AV} (h : OQb st p g k pv) : aload Try.prog st 3 (.ptr p 0) = some (i64 k) ∧ aload Try.prog st 22 (.ptr p 1) = some pv :=
  ⟨load_at Try.underlying3 rfl szIn h rfl, load_at Try.underlying22 rfl szQ h rfl⟩
/-- What stands between two calls: the inbox and the reference's hold the same. -/
structure Pl (s : St) (p m lo c : Nat) (cl : Bool) (rv : AV) (rows : List (List Int)) (L : Nat → Nat → Prop) (KR : Nat → Prop) : Prop where
  que : Que s p c cl L rows
  rib : RIb s m m c rv cl
  ref : RdE rowK s KR rv rows
  apt : Apt s.n lo rows.length L
  kr : ∀ g, KR g → lo ≤ g ∧ g < s.n
  dis : ∀ j g, j < rows.length → L j g → ¬ KR g
  len : rows.length ≤ c
  short : ∀ x ∈ rows, x.length ≤ 1048576
  pm : p < m
  ml : m < lo
  los : lo ≤ s.n
theorem Pl.up {s s' : St} {p m lo c : Nat} {cl : Bool} {rv : AV} {rows : List (List Int)} {L : Nat → Nat → Prop} {KR : Nat → Prop} (h : Pl s p m lo c cl rv rows L KR) (hk : Ext s s') : Pl s' p m lo c cl rv rows L KR :=
  ⟨h.que.up hk, hk.get _ _ h.rib (fun h => h), h.ref.up hk, h.apt.more hk.n, fun g hg => ⟨(h.kr g hg).1, Nat.lt_of_lt_of_le (h.kr g hg).2 hk.n⟩, h.dis, h.len, h.short, h.pm, h.ml, Nat.le_trans h.los hk.n⟩
/-- A call on the inbox alone. -/
theorem Pl.inb {s s' : St} {p m lo c : Nat} {cl : Bool} {rv : AV} {rows : List (List Int)} {L : Nat → Nat → Prop} {KR : Nat → Prop} (h : Pl s p m lo c cl rv rows L KR) (hk : Keeps (fun g => g = p) s s') : RIb s' m m c rv cl ∧ RdE rowK s' KR rv rows :=
  ⟨hk.get _ _ h.rib (by have := h.pm; show ¬ m = p; omega), h.ref.keep hk (fun g hg e => by have := (h.kr g hg).1; have := h.pm; have := h.ml; omega)⟩
/-- The number behind a Take. -/
def tkc (cl : Bool) : List (List Int) → Int
  | [] => if cl = true then 260 else 183
  | _ :: _ => 0
theorem itake_any {st : St} {i cap : Nat} {cl : Bool} {L : Nat → Nat → Prop} {rows : List (List Int)} (h : Que st i cap cl L rows) : ACalls Try.prog 11 [.ptr i 0] st (fun r s => Keeps (fun g => g = i) st s ∧ ∃ c1, r = .tup [c1, i64 (tkc cl rows)] ∧ OwB s (fun g => 0 < rows.length ∧ L 0 g) c1 (rows.headD []) ∧ Que s i cap cl (fun j => L (j + 1)) rows.tail) := by
  cases rows with
  | nil => exact (itake_nil h).mono fun r s ⟨h1, h2⟩ => ⟨h1.mono (fun _ h => h.elim), nilV, h2, .inl ⟨rfl, rfl⟩, (h.up h1).mono (fun j g hj => by simp at hj)⟩
  | cons x rows => exact (itake_ok h).mono fun r s ⟨h1, c1, h2, h3, h4⟩ => ⟨h1, c1, h2, h3.mono (fun g hg => ⟨by simp, hg⟩), h4⟩
theorem rtake_any {st : St} (hw : WF st) {c : Nat} {rv : AV} {cl : Bool} {K : Nat → Prop} {rows : List (List Int)} (h : RdE rowK st K rv rows) (hl : rows.length ≤ 1048576) (hx : ∀ x ∈ rows, x.length ≤ 1048576) :
    ACalls Try.prog 19 [.agg [i64 c, rv, .pl (.bool cl)]] st (fun r s => Ext st s ∧ ∃ y w, r = .tup [.agg [i64 c, y, .pl (.bool cl)], w, i64 (tkc cl rows)] ∧ RdE rowK s (fun g => (K g ∧ g < st.n) ∨ st.n ≤ g) y rows.tail ∧ RdB s (fun g => st.n ≤ g) w (rows.headD [])) := by
  cases rows with
  | nil => exact (rtake_nil hw h).mono fun r s ⟨h1, h2⟩ => ⟨h1, rv, nilV, h2, ((RdE.lt hw h).up h1).mono (fun g hg => .inl hg), .inl ⟨rfl, .inl ⟨_, _, rfl⟩⟩⟩
  | cons x rows => exact rtake_ok (x := x) (rows := rows) hw h (by have := hl; rw [List.length_cons] at this; omega) (hx x (List.mem_cons_self ..))
end Go.Proofs.Ytlindddionbpkaa.Ra
