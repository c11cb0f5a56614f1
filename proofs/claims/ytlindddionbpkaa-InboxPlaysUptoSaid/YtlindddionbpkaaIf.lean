/- leatlaw26.InboxOrder. -/
import Derived.Test.YtlindddionbpkaaIe
namespace Go.Proofs.Ytlindddionbpkaa.Ra
open Go Go.RowKit
set_option linter.unusedVariables false
set_option linter.unusedSimpArgs false
set_option maxRecDepth 10000
/-- A number. -/
def numJ : EK Int where
  s := 1
  R := fun st K cs n => cs = [i64 n]
  keep := fun _ _ c x h => h
  mono := fun _ c x h => h
  lt := fun _ c x h => h
  one := fun c x h => by subst h; rfl
  len := fun c x h => by subst h; rfl
theorem TJ : TF Try.prog 23 3 numJ.s 8 := TF.of (by kernel_rfl) (by kernel_rfl) (by decide)
theorem numJ_at {st : St} {K : Nat → Prop} {v : AV} {xs : List Int} (h : RdE numJ st K v xs) (j : Nat) (hj : j < xs.length) :
    ∃ p, aindexAddr Try.prog 23 v (i64 j) = some p ∧ p.solid = true ∧ aload Try.prog st 3 p = some (i64 xs[j]) := by
  obtain ⟨p, c, h1, h2, h3, h4⟩ := h.load1 rfl TJ Try.underlying3 rfl .i64 j hj
  have h5 : [c] = [i64 xs[j]] := h4
  cases h5
  exact ⟨p, h1, h2, h3⟩
/-- The groups of all messages that were put in. -/
structure Glo (n lo N : Nat) (L : Nat → Nat → Prop) : Prop where
  rng : ∀ j g, L j g → j < N ∧ lo ≤ g ∧ g < n
  one : ∀ i j g, L i g → L j g → i = j
theorem Glo.more {n m lo N : Nat} {L : Nat → Nat → Prop} (h : Glo n lo N L) (hm : n ≤ m) : Glo m lo N L := ⟨fun j g hl => by have := h.rng j g hl; omega, h.one⟩
theorem Glo.zero (n : Nat) : Glo n n 0 (fun _ _ => False) := ⟨fun _ _ h => h.elim, fun _ _ _ h => h.elim⟩
theorem Glo.que {n lo N T : Nat} {L : Nat → Nat → Prop} (h : Glo n lo N L) : Apt n lo (N - T) (fun j => L (T + j)) :=
  ⟨fun j g _ hl => (h.rng _ g hl).2, fun i j g _ _ h1 h2 => by have := h.one _ _ g h1 h2; omega⟩
def gluL (T N : Nat) (L L' : Nat → Nat → Prop) : Nat → Nat → Prop := fun j g => (j < T ∧ L j g) ∨ (T ≤ j ∧ j ≤ N ∧ L' (j - T) g)
theorem Glo.add {n n' m lo N T : Nat} {L L' : Nat → Nat → Prop} (h : Glo n lo N L) (hT : T ≤ N) (hn : n ≤ n') (hm : n' ≤ m) (h' : Apt m lo (N - T + 1) L') (ha : ∀ j g, j < N - T → (L' j g ↔ L (T + j) g)) (hb : ∀ j g, N - T ≤ j → L' j g → n' ≤ g) :
    Glo m lo (N + 1) (gluL T N L L') ∧ (∀ j g, L j g → gluL T N L L' j g) ∧ (∀ j g, j < N - T + 1 → L' j g → gluL T N L L' (T + j) g) := by
  have mix : ∀ i j g, i < T → L i g → T ≤ j → j ≤ N → L' (j - T) g → i = j := by
    intro i j g hi h1 hj hjN h2
    by_cases hc : j - T < N - T
    · have h3 := (ha (j - T) g hc).1 h2
      rw [show T + (j - T) = j by omega] at h3
      exact h.one i j g h1 h3
    · have h3 := hb (j - T) g (by omega) h2
      have h4 := h.rng i g h1
      omega
  refine ⟨⟨fun j g hl => ?_, fun i j g h1 h2 => ?_⟩, fun j g hl => ?_, fun j g hj hl => .inr ⟨by omega, by omega, by rw [show T + j - T = j by omega]; exact hl⟩⟩
  · rcases hl with ⟨a, b⟩ | ⟨a, b, c⟩
    · have := h.rng j g b; omega
    · have := h'.rng (j - T) g (by omega) c; omega
  · rcases h1 with ⟨a, b⟩ | ⟨a, b, c⟩ <;> rcases h2 with ⟨a', b'⟩ | ⟨a', b', c'⟩
    · exact h.one i j g b b'
    · exact mix i j g a b a' b' c'
    · exact (mix j i g a' b' a b c).symm
    · have := h'.one (i - T) (j - T) g (by omega) (by omega) c c'; omega
  · have := h.rng j g hl
    by_cases hj : j < T
    · exact .inl ⟨hj, hl⟩
    · refine .inr ⟨by omega, by omega, (ha (j - T) g (by omega)).2 ?_⟩
      rw [show T + (j - T) = j by omega]
      exact hl
/-- The two lists and the inbox. -/
structure Ord (s : St) (n0 p c lo a b : Nat) (cl : Bool) (iv ov : AV) (ac acc : List (List Int)) (T : Nat) (L : Nat → Nat → Prop) : Prop where
  T_le : T ≤ acc.length
  al : a < lo
  bl : b < lo
  ab : a ≠ b
  pa : p < a
  pb : p < b
  n0p : n0 ≤ p
  los : lo ≤ s.n
  ivn : iv ≠ .pl (.slice none 0 0)
  ovn : ov ≠ .pl (.slice none 0 0)
  inn : OwX rowK s (fun g => g = a) (fun _ g => g < n0) BT iv ac
  out : OwX oRowK s (fun g => g = b) L BT ov (acc.take T)
  que : Que s p c cl (fun j => L (T + j)) (acc.drop T)
  glo : Glo s.n lo acc.length L
  cap : acc.length - T ≤ c
theorem Ord.up {s s' : St} {n0 p c lo a b : Nat} {cl : Bool} {iv ov : AV} {ac acc : List (List Int)} {T : Nat} {L : Nat → Nat → Prop} (h : Ord s n0 p c lo a b cl iv ov ac acc T L) (hk : Ext s s') : Ord s' n0 p c lo a b cl iv ov ac acc T L :=
  ⟨h.T_le, h.al, h.bl, h.ab, h.pa, h.pb, h.n0p, Nat.le_trans h.los hk.n, h.ivn, h.ovn, h.inn.up hk, h.out.up hk, h.que.up hk, h.glo.more hk.n, h.cap⟩
/-- A message goes in. -/
theorem Ord.offered {s t s' : St} {n0 p c lo a b : Nat} {iv ov : AV} {ac acc : List (List Int)} {T : Nat} {L L' : Nat → Nat → Prop} {m : List Int} (h : Ord s n0 p c lo a b false iv ov ac acc T L) (hE : Ext s t) (hk : Keeps (fun g => g = p) t s') (hroom : acc.length - T < c)
    (hQ : Que s' p c false L' (acc.drop T ++ [m])) (hA : Apt s'.n lo ((acc.drop T).length + 1) L') (ha : ∀ j g, j < (acc.drop T).length → (L' j g ↔ L (T + j) g)) (hb : ∀ j g, (acc.drop T).length ≤ j → L' j g → t.n ≤ g) :
    ∃ L2, Ord s' n0 p c lo a b false iv ov ac (acc ++ [m]) T L2 := by
  rw [List.length_drop] at hA ha hb
  have hT := h.T_le
  obtain ⟨g1, g2, g3⟩ := Glo.add h.glo hT hE.n hk.n hA ha hb
  have hp : ∀ g, g = a → ¬ g = p := fun g e e' => by have := h.pa; omega
  have hq : ∀ g, g = b → ¬ g = p := fun g e e' => by have := h.pb; omega
  have hL : ∀ j g, L j g → ¬ g = p := fun j g hg e => by have := h.glo.rng j g hg; have := h.pa; have := h.al; omega
  refine ⟨gluL T acc.length L L', by simp; omega, h.al, h.bl, h.ab, h.pa, h.pb, h.n0p, Nat.le_trans h.los (Nat.le_trans hE.n hk.n), h.ivn, h.ovn, (h.inn.up hE).keep hk hp (fun j g hg e => by have := h.n0p; omega), ?_, ?_, by rw [List.length_append]; exact g1, by rw [List.length_append]; simp; omega⟩
  · rw [List.take_append_of_le_length hT]
    exact ((h.out.up hE).keep hk hq hL).mono (fun g hg => hg) g2
  · rw [List.drop_append_of_le_length hT]
    exact hQ.mono fun j g hj hg => g3 j g (by simpa using hj) hg
/-- A message has come out, and stands behind the others. -/
theorem Ord.taken {s s1 s2 : St} {n0 p c lo a b : Nat} {cl : Bool} {iv ov ov' : AV} {ac acc : List (List Int)} {T : Nat} {L : Nat → Nat → Prop} (h : Ord s n0 p c lo a b cl iv ov ac acc T L) (hT : T < acc.length) (h1 : Keeps (fun g => g = p) s s1) (h2 : Keeps (fun g => g = b) s1 s2)
    (hQ : Que s1 p c cl (fun j => L (T + (j + 1))) (acc.drop (T + 1))) (hO : OwX oRowK s2 (fun g => g = b) L BT ov' (acc.take T ++ [acc[T]])) : Ord s2 n0 p c lo a b cl iv ov' ac acc (T + 1) L := by
  have hL : ∀ j g, L j g → ¬ g = p ∧ ¬ g = b := fun j g hg => by have := h.glo.rng j g hg; have := h.pa; have := h.al; have := h.bl; omega
  refine ⟨hT, h.al, h.bl, h.ab, h.pa, h.pb, h.n0p, Nat.le_trans h.los (Nat.le_trans h1.n h2.n), h.ivn, hO.ne, ?_, ?_, ?_, h.glo.more (Nat.le_trans h1.n h2.n), by have := h.cap; omega⟩
  · exact (h.inn.keep h1 (fun g e e' => by have := h.pa; omega) (fun j g hg e => by have := h.n0p; omega)).keep h2 (fun g e e' => by have := h.ab; omega) (fun j g hg e => by have := h.n0p; have := h.pb; omega)
  · rw [List.take_succ_eq_append_getElem hT]
    exact hO
  · have e : (fun j => L (T + 1 + j)) = fun j => L (T + (j + 1)) := by
      funext j
      rw [show T + 1 + j = T + (j + 1) by omega]
    rw [e]
    exact hQ.keep h2 (fun e => by have := h.pb; omega) (fun j g _ hg => (hL _ g hg).2)
/-- No room: nothing has changed. -/
theorem Ord.refused {s t s' : St} {n0 p c lo a b : Nat} {iv ov : AV} {ac acc : List (List Int)} {T : Nat} {L L' : Nat → Nat → Prop} (h : Ord s n0 p c lo a b false iv ov ac acc T L) (hE : Ext s t) (hk : Keeps (fun g => g = p) t s')
    (hQ : Que s' p c false L' (acc.drop T)) (ha : ∀ j g, j < (acc.drop T).length → (L' j g ↔ L (T + j) g)) : Ord s' n0 p c lo a b false iv ov ac acc T L := by
  have hp : ∀ g, g = a → ¬ g = p := fun g e e' => by have := h.pa; omega
  have hq : ∀ g, g = b → ¬ g = p := fun g e e' => by have := h.pb; omega
  have hL : ∀ j g, L j g → ¬ g = p := fun j g hg e => by have := h.glo.rng j g hg; have := h.pa; have := h.al; omega
  exact ⟨h.T_le, h.al, h.bl, h.ab, h.pa, h.pb, h.n0p, Nat.le_trans h.los (Nat.le_trans hE.n hk.n), h.ivn, h.ovn, (h.inn.up hE).keep hk hp (fun j g hg e => by have := h.n0p; omega), (h.out.up hE).keep hk hq hL, hQ.mono fun j g hj hg => (ha j g hj).1 hg, h.glo.more (Nat.le_trans hE.n hk.n), h.cap⟩
/-- The list of what went in, one longer. -/
theorem Ord.noted {s s' : St} {n0 p c lo a b : Nat} {cl : Bool} {iv iv' ov : AV} {ac ac' acc : List (List Int)} {T : Nat} {L : Nat → Nat → Prop} (h : Ord s n0 p c lo a b cl iv ov ac acc T L) (hk : Keeps (fun g => g = a) s s') (hi : OwX rowK s' (fun g => g = a) (fun _ g => g < n0) BT iv' ac') (hn : iv' ≠ .pl (.slice none 0 0)) : Ord s' n0 p c lo a b cl iv' ov ac' acc T L := by
  have hL : ∀ j g, L j g → ¬ g = a := fun j g hg e => by have := h.glo.rng j g hg; have := h.al; omega
  exact ⟨h.T_le, h.al, h.bl, h.ab, h.pa, h.pb, h.n0p, Nat.le_trans h.los hk.n, hn, h.ovn, hi, h.out.keep hk (fun g e e' => by have := h.ab; omega) hL, h.que.keep hk (fun e => by have := h.pa; omega) (fun j g _ hg => hL _ g hg), h.glo.more hk.n, h.cap⟩
theorem ioffer_any {st : St} (hw : WF st) {i cap lo : Nat} {L : Nat → Nat → Prop} {rows : List (List Int)} {m : List Int} {v : AV} {K : Nat → Prop} (hQ : Que st i cap false L rows) (hR : RdE rowK st K v [m]) (hsl : ∃ a b es, v = .sl a b 1 es) (hKi : ¬ K i) (hlen : m.length ≤ 140737488355327) (hrc : rows.length ≤ cap) (hA : Apt st.n lo rows.length L) (hlo : lo ≤ st.n) (hi : i < lo) :
    ACalls Try.prog 8 [.ptr i 0, v] st (fun r s => Keeps (fun g => g = i) st s ∧ ∃ (z e : Int) (L' : Nat → Nat → Prop), r = .tup [i64 z, i64 e] ∧ (∀ j g, j < rows.length → (L' j g ↔ L j g)) ∧ ((z = 1 ∧ e = 0 ∧ rows.length < cap ∧ Que s i cap false L' (rows ++ [m]) ∧ Apt s.n lo (rows.length + 1) L' ∧ ∀ j g, rows.length ≤ j → L' j g → st.n ≤ g) ∨ (z = 0 ∧ e = 261 ∧ rows.length = cap ∧ Que s i cap false L' rows))) := by
  by_cases hr : rows.length < cap
  · exact (ioffer_one hw hQ hR hsl hKi hlen hr hA hlo hi).mono fun r s ⟨h1, h2, L', h3, h4, h5, h6⟩ => ⟨h1, 1, 0, L', h2, h5, .inl ⟨rfl, rfl, hr, h3, h4, h6⟩⟩
  · have hr2 : rows.length = cap := by omega
    exact (ioffer_full hw hQ hR hsl hKi (by simpa using hlen) (by simp) hr2 hA hlo hi).mono fun r s ⟨h1, h2, L', h3, h4, h5⟩ => ⟨h1, 0, 261, L', h2, h5, .inr ⟨rfl, rfl, hr2, h3⟩⟩
theorem Ord.shut {s s' : St} {n0 p c lo a b : Nat} {cl cl' : Bool} {iv ov : AV} {ac acc : List (List Int)} {T : Nat} {L : Nat → Nat → Prop} (h : Ord s n0 p c lo a b cl iv ov ac acc T L) (hk : Keeps (fun g => g = p) s s') (hQ : Que s' p c cl' (fun j => L (T + j)) (acc.drop T)) : Ord s' n0 p c lo a b cl' iv ov ac acc T L :=
  ⟨h.T_le, h.al, h.bl, h.ab, h.pa, h.pb, h.n0p, Nat.le_trans h.los hk.n, h.ivn, h.ovn, h.inn.keep hk (fun g e e' => by have := h.pa; omega) (fun j g hg e => by have := h.n0p; omega), h.out.keep hk (fun g e e' => by have := h.pb; omega) (fun j g hg e => by have := h.glo.rng j g hg; have := h.pa; have := h.al; omega), hQ, h.glo.more hk.n, h.cap⟩
end Go.Proofs.Ytlindddionbpkaa.Ra
