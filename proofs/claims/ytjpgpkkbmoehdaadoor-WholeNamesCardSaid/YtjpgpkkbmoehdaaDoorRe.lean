/- What the operations come to in the machine: what is made. -/
import Derived.Test.YtjpgpkkbmoehdaaDoorRd
namespace Go.Proofs.YtjpgpkkbmoehdaaDoor.Ra
open Go Go.RowKit
set_option linter.unusedVariables false
set_option linter.unusedSimpArgs false
section
variable {P : Program} {w0 : World} {σ : Ren} {st : St} {w : World}
theorem fill_one (off : Nat) : ∀ (l : List Value) (k : Nat) (arr : Array Value), off + k + l.length ≤ arr.size →
    ((l.zipIdx k).foldl (fun (cs : Array Value) (x : Value × Nat) => cs.setIfInBounds (off + x.2) x.1) arr).toList = arr.toList.take (off + k) ++ l ++ arr.toList.drop (off + k + l.length)
  | [], k, arr, _ => by simp
  | v :: r, k, arr, h => by
    simp only [List.zipIdx_cons, List.foldl_cons]
    rw [fill_one off r (k + 1) (arr.setIfInBounds (off + k) v) (by simp at h ⊢; omega)]
    have e := list_seg_step arr.toList (off + k) v r (by simp at h ⊢; omega)
    simpa [Array.toList_setIfInBounds, Nat.add_assoc] using e
theorem fill_cells (off : Nat) (u : Array Value) (arr : Array Value) (h : off + u.size ≤ arr.size) :
    (u.zipIdx.foldl (fun (cs : Array Value) (x : Value × Nat) => cs.setIfInBounds (off + x.2) x.1) arr).toList = arr.toList.take off ++ u.toList ++ arr.toList.drop (off + u.size) := by
  have := fill_one off u.toList 0 arr (by simpa using h)
  rw [← Array.foldl_toList, Array.toList_zipIdx]
  simpa using this
theorem sim_fill {fr : AFr} {a : Act} (hF : FR σ fr a) (place : Nat → Option (Nat × Nat)) : ∀ (ps : List (Nat × Operand)) (cells : List AV) (vc : Array Value) (cs : List AV), CR σ cells vc.toList → afill place cells (ps.map fun p => (p.1, aeval fr p.2)) = some cs →
    ∃ vcs : Array Value, Instr.fill place vc (ps.map fun p => (p.1, a.eval p.2)) = some vcs ∧ CR σ cs vcs.toList
  | [], cells, vc, cs, hc, h => by
    simp only [List.map_nil, afill, Option.some.injEq] at h
    subst h
    exact ⟨vc, rfl, hc⟩
  | (i, x) :: r, cells, vc, cs, hc, h => by
    simp only [List.map_cons, afill] at h
    simp only [List.map_cons, Instr.fill]
    cases hp : place i with
    | none => simp only [hp] at h; cases h
    | some z =>
      obtain ⟨off, size⟩ := z
      simp only [hp] at h ⊢
      split at h
      case isFalse => cases h
      rename_i hcond
      have hv := (hF.eval x).cells hcond.1
      have hl := hv.1
      simp only [Array.length_toList] at hl
      have hcl := hc.1
      simp only [Array.length_toList] at hcl
      have hno : (decide ((a.eval x).cells.size ≠ size) || decide (off + (a.eval x).cells.size > vc.size)) = false := by
        simp only [Bool.or_eq_false_iff, decide_eq_false_iff_not]
        omega
      rw [hno]
      simp only [Bool.false_eq_true, if_false]
      refine sim_fill hF place r _ _ cs ?_ h
      have e := fill_cells off (a.eval x).cells vc (by omega)
      unfold splice
      have e2 : (Array.foldl (fun cs (x : Value × Nat) => match x with | (c, j) => cs.setIfInBounds (off + j) c) vc (a.eval x).cells.zipIdx).toList = vc.toList.take off ++ (a.eval x).cells.toList ++ vc.toList.drop (off + (a.eval x).cells.size) := e
      rw [e2, hl]
      exact ((hc.take off).append hv).append (hc.drop _)
theorem zero_run {t : TypeId} {z : Value} (h : (P.info? t).bind (·.zero) = some z) (w : World) : (zeroValue t).run P w = .ok z w := by
  obtain ⟨i, hi, hz⟩ := Option.bind_eq_some_iff.1 h
  simp [zeroValue, typeInfo, hi, hz]
/-- What is new has a new name. -/
structure New (σ σ' : Ren) (id : Nat) : Prop where
  sub : Sub σ σ'
  only : ∀ i, i ≠ id → σ i = none → σ' i = none
theorem New.refl (σ : Ren) (id : Nat) : New σ σ id := ⟨Sub.refl σ, fun _ _ h => h⟩
theorem New.set {id : Nat} (hid : σ id = none) (l : Loc) : New σ (σ.set id l) id := ⟨Ren.set_sub σ hid l, fun i hi h => by simp [Ren.set, hi, h]⟩
theorem sim_box (h : Sim P w0 σ st w) {id : Nat} (hid : σ id = none) (hn : id < st.n) {e : TypeId} {s : Nat} (hs : szOf P e = some s) {x : AV} {v : Value} (hv : VR σ x v) (hx : x.solid = true) :
    ∃ r w' σ', (Instr.box e v).run P w = .ok r w' ∧ New σ σ' id ∧ Sim P w0 σ' (st.put id ⟨x.cells, e, true, id⟩) w' ∧ VR σ' (.ptr id 0) r := by
  have hc := hv.cells hx
  have hN := h.new hid hn (e := e) hs (xs := x.cells) (c := v.cells) (by rw [List.take_of_length_le (by have := hc.1; omega)]; exact hc) (0, 0) true id (fun _ => rfl)
  refine ⟨_, _, _, ?_, New.set hid _, hN, .ptr (Ren.set_at _ _ _)⟩
  rfl
theorem sim_alloc (h : Sim P w0 σ st w) {id : Nat} (hid : σ id = none) (hn : id < st.n) {e : TypeId} {s : Nat} (hs : szOf P e = some s) {cs : List AV} (hz : zcells P e = some cs) :
    ∃ r w' σ', (Instr.alloc e true (.tuple #[])).run P w = .ok r w' ∧ New σ σ' id ∧ Sim P w0 σ' (st.put id ⟨cs, e, true, id⟩) w' ∧ VR σ' (.ptr id 0) r := by
  obtain ⟨z, hzz, rfl⟩ := Option.map_eq_some_iff.1 hz
  have hN := h.new hid hn (e := e) hs (xs := z.cells.toList.map .pl) (c := z.cells) (by rw [List.take_of_length_le (by simp)]; exact CR.pls σ _) (0, 0) true id (fun _ => rfl)
  refine ⟨_, _, _, ?_, New.set hid _, hN, .ptr (Ren.set_at _ _ _)⟩
  simp only [Instr.alloc, Sem.run_bind, zero_run hzz, Result.andThen_ok]
  rfl
theorem sim_makeSlice (h : Sim P w0 σ st w) {id : Nat} (hid : σ id = none) (hn : id < st.n) {t e : TypeId} {i : TypeInfo} {z : Value} {kl kc : IntKind} {n : Int} (ht : P.underlying t = some (.slice e)) (hi : P.info? e = some i) (hz : i.zero = some z) (hs0 : 0 < i.size) (h0 : 0 ≤ n) (hb : (i.bytes : Int) * n ≤ 281474976710656) (h63 : n ≤ 9223372036854775807) :
    ∃ r w' σ', (Instr.makeSlice t (.int kl n) (.int kc n)).run P w = .ok r w' ∧ New σ σ' id ∧ Sim P w0 σ' (st.put id ⟨(madeCells z.cells (n.toNat * i.size)).toList.map .pl, e, true, id⟩) w' ∧ VR σ' (.sl id 0 n.toNat i.size) r := by
  have hr := run_make (P := P) w t e i z ht hi hz kl kc n n h0 (Int.le_refl _) hb h63
  have hN := h.new hid hn (e := e) (s := i.size) (by rw [hi]; rfl) (xs := (madeCells z.cells (n.toNat * i.size)).toList.map .pl) (c := madeCells z.cells (n.toNat * i.size)) (by rw [List.take_of_length_le (by simp)]; exact CR.pls σ _) (0, 0) true id (fun _ => rfl)
  refine ⟨_, _, _, hr, New.set hid _, hN, .sl (Ren.set_at _ _ _) (Nat.le_refl _) (by simp only [maxLen]; omega) (.inr rfl) (fun _ => ⟨rfl, hs0, ?_⟩)⟩
  show 0 + 0 + n.toNat * i.size ≤ (madeCells z.cells (n.toNat * i.size)).size
  rw [size_madeCells]
  omega
end
end Go.Proofs.YtjpgpkkbmoehdaaDoor.Ra
