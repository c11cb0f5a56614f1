/- Functions that are told by a law of their own: the names (Dir, UnDir, File, UnFile): strings and numbers alone. -/
import Derived.Test.YtjpgpkkbmoehdaaDoorRj
import Derived.Test.YtjpgpkkbmoehdaaDoorLd
namespace Go.Proofs.YtjpgpkkbmoehdaaDoor.Ra
open Go Go.RowKit
set_option linter.unusedVariables false
set_option linter.unusedSimpArgs false
/-- The programs that are told of. -/
def oracP (P : Program) (w0 : World) : Prop := P = Tryd.prog ∧ Nm.Tens w0
def isOrac (f : FuncId) : Bool := [4, 9, 5, 10].contains f
def IsDir (s : ByteArray) (t : ByteArray) (p : Nat) : Prop := Nm.OkT t.data.toList ∧ p < 2147483648 ∧ s = ⟨(Nm.dirL t.data.toList p).toArray⟩
def IsFile (s : ByteArray) (b : Nat) : Prop := b ≤ 4611686018427387904 ∧ s = ⟨(Nm.fileL b).toArray⟩
open Classical in
noncomputable def pureF (f : FuncId) (xs : List AV) : Option AV :=
  match xs with
  | [.pl (.string s), .pl (.int .i32 p)] => if f = 4 ∧ Nm.OkT s.data.toList ∧ 0 ≤ p ∧ p < 2147483648 then some (.tup [.pl (.string ⟨(Nm.dirL s.data.toList p.toNat).toArray⟩), .pl (.int .i64 0)]) else none
  | [.pl (.int .i64 b)] => if f = 5 ∧ 0 ≤ b ∧ b ≤ 4611686018427387904 then some (.tup [.pl (.string ⟨(Nm.fileL b.toNat).toArray⟩), .pl (.int .i64 0)]) else none
  | [.pl (.string s)] =>
    if f = 9 then (if h : ∃ t p, IsDir s t p then some (.tup [.pl (.string h.choose), .pl (.int .i32 h.choose_spec.choose), .pl (.int .i64 0)]) else none)
    else if f = 10 then (if h : ∃ b, IsFile s b then some (.tup [.pl (.int .i64 h.choose), .pl (.int .i64 0)]) else none) else none
  | _ => none
noncomputable def orac (P : Program) (call : ACall) (f : FuncId) (xs : List AV) (st : St) : Option (AV × St) := (pureF f xs).map fun r => (r, st)
theorem orac_mono {P : Program} {c c' : ACall} (h : ∀ f xs st r, c f xs st = some r → c' f xs st = some r) {f : FuncId} {xs : List AV} {st : St} {r : AV × St} (ho : orac P c f xs st = some r) : orac P c' f xs st = some r := ho
theorem orac_st {P : Program} {c : ACall} {f : FuncId} {xs : List AV} {st st' : St} {r : AV} (ho : orac P c f xs st = some (r, st')) : st' = st ∧ pureF f xs = some r := by
  obtain ⟨v, h1, h2⟩ := Option.map_eq_some_iff.1 ho
  simp only [Prod.mk.injEq] at h2
  exact ⟨h2.2.symm, by rw [h1, h2.1]⟩
theorem orac_frame {P : Program} {c : ACall} (hc : FrameOK c) {f : FuncId} {xs : List AV} {st st' : St} {r : AV} (ho : orac P c f xs st = some (r, st')) {d : Nat} (h : Frm d st) : Frm d st' ∧ ∀ ob : AObj, ob.grp = d → orac P c f xs (st.put d ob) = some (r, st'.put d ob) := by
  have ho2 := orac_st ho
  clear ho
  obtain ⟨rfl, ho⟩ := ho2
  refine ⟨h, fun ob _ => ?_⟩
  unfold orac
  rw [ho]
  rfl
theorem orac_wf {P : Program} {c : ACall} (h : ∀ f xs st r st', c f xs st = some (r, st') → (∀ i o, st.get i = some o → i < st.n ∧ o.grp < st.n) → (∀ i o, st'.get i = some o → i < st'.n ∧ o.grp < st'.n) ∧ st.n ≤ st'.n) {f : FuncId} {xs : List AV} {st st' : St} {r : AV} (ho : orac P c f xs st = some (r, st')) (hw : ∀ i o, st.get i = some o → i < st.n ∧ o.grp < st.n) :
    (∀ i o, st'.get i = some o → i < st'.n ∧ o.grp < st'.n) ∧ st.n ≤ st'.n := by
  rw [(orac_st ho).1]
  exact ⟨hw, Nat.le_refl _⟩
theorem orac_wd {P : Program} {d : Nat} {c : ACall} (h : ∀ f xs st r st', c f xs st = some (r, st') → (d < st.n ∧ st.get d = none) → (d < st'.n ∧ st'.get d = none)) {f : FuncId} {xs : List AV} {st st' : St} {r : AV} (ho : orac P c f xs st = some (r, st')) (hw : d < st.n ∧ st.get d = none) : d < st'.n ∧ st'.get d = none := by
  rw [(orac_st ho).1]
  exact hw
/-- New blocks that nobody names. -/
theorem Sim.grow {P : Program} {w0 w w' : World} {σ : Ren} {st : St} (h : Sim P w0 σ st w) (hb : Below w.heap.size w w') : Sim P w0 σ st w' := by
  have hB := h.below
  refine ⟨⟨hb.os.trans hB.os, hb.tape.trans hB.tape, hb.output.trans hB.output, Nat.le_trans hB.size hb.size, fun k hk => (hb.block k (Nat.lt_of_lt_of_le hk hB.size)).trans (hB.block k hk)⟩, h.dom, fun i o hi => ?_, fun i l hi => ?_, h.alias, h.init, h.inbs.step (Sub.refl σ) rfl (fun i c l h1 h2 h3 => ?_) (fun j o l' h1 h2 => .inl ⟨j, o, l', h1, h2, rfl⟩)⟩
  · obtain ⟨l, h1, h2⟩ := h.obj i o hi
    exact ⟨l, h1, h2.step (Sub.refl σ) (hb.block _ (h.lt h1))⟩
  · have := hb.size
    rcases h.place i l hi with ⟨a, b⟩ | ⟨a, b, c⟩
    · exact .inl ⟨a, by omega⟩
    · exact .inr ⟨a, b, by omega⟩
  · obtain ⟨-, -, -, -, ⟨e, g1⟩, buf, s, q, g2, -⟩ := h3
    exact ⟨hb.block _ (Array.getElem?_eq_some_iff.1 g1).1, hb.block _ (Array.getElem?_eq_some_iff.1 g2).1⟩
theorem Sim.tens {w0 w : World} {σ : Ren} {st : St} (h : Sim Tryd.prog w0 σ st w) (ht : Nm.Tens w0) : Nm.Tens w := ht.up h.below
theorem cr1 {σ : Ren} {a : Value} {vs : List Value} (h : CR σ [.pl a] vs) : vs = [a] := by
  obtain ⟨h1, h2⟩ := h
  obtain ⟨b, rfl⟩ : ∃ b, vs = [b] := by
    match vs, h1 with
    | [b], _ => exact ⟨b, rfl⟩
  have := h2 0 _ _ rfl rfl
  cases this
  rfl
theorem cr2 {σ : Ren} {a c : Value} {vs : List Value} (h : CR σ [.pl a, .pl c] vs) : vs = [a, c] := by
  obtain ⟨h1, h2⟩ := h
  obtain ⟨b, d, rfl⟩ : ∃ b d, vs = [b, d] := by
    match vs, h1 with
    | [b, d], _ => exact ⟨b, d, rfl⟩
  have h3 := h2 0 _ _ rfl rfl
  have h4 := h2 1 _ _ rfl rfl
  cases h3
  cases h4
  rfl
theorem vr_tup (σ : Ren) (vs : List Value) : VR σ (.tup (vs.map .pl)) (.tuple vs.toArray) := .tup (by simp) fun i x v hx hv => by
  rw [List.getElem?_map] at hx
  have hv2 : vs[i]? = some v := by simpa using hv
  rw [hv2] at hx
  cases hx
  exact .pl v
theorem orac_ok {P : Program} {w0 : World} (hP : oracP P w0) {call : ACall} (hc : CallOK P w0 call) {f : FuncId} {xs : List AV} {st st' : St} {r : AV} (hf : isOrac f = true) (ho : orac P call f xs st = some (r, st')) :
    (∃ fn, P.funcs[f]? = some fn ∧ (fn.name == "runtime.NumGoroutine") = false ∧ fn.body.isNone = false) ∧ st.n ≤ st'.n ∧
    ∀ σ w vs, Sim P w0 σ st w → CR σ xs vs → Calls P f vs.toArray w (fun e w' => ∃ v σ', e = .returned v ∧ Sub σ σ' ∧ (∀ i, i < st.n → σ i = none → σ' i = none) ∧ Sim P w0 σ' st' w' ∧ VR σ' r v) := by
  obtain ⟨rfl, ht⟩ := hP
  have ho2 := orac_st ho
  clear ho
  obtain ⟨rfl, ho⟩ := ho2
  refine ⟨?_, Nat.le_refl _, fun σ w vs hS hcr => ?_⟩
  · have : f = 4 ∨ f = 9 ∨ f = 5 ∨ f = 10 := by simpa [isOrac] using hf
    rcases this with rfl | rfl | rfl | rfl
    · exact ⟨_, Tryd.func4, by decide +kernel, by decide +kernel⟩
    · exact ⟨_, Tryd.func9, by decide +kernel, by decide +kernel⟩
    · exact ⟨_, Tryd.func5, by decide +kernel, by decide +kernel⟩
    · exact ⟨_, Tryd.func10, by decide +kernel, by decide +kernel⟩
  have ht2 := hS.tens ht
  have fin : ∀ (us : List Value), r = .tup (us.map .pl) → Calls Tryd.prog f vs.toArray w (fun e w' => e = .returned (.tuple us.toArray) ∧ Below w.heap.size w w') → Calls Tryd.prog f vs.toArray w (fun e w' => ∃ v σ', e = .returned v ∧ Sub σ σ' ∧ (∀ i, i < st'.n → σ i = none → σ' i = none) ∧ Sim Tryd.prog w0 σ' st' w' ∧ VR σ' r v) := by
    rintro us rfl h
    refine h.mono ?_
    rintro e w' ⟨rfl, hb⟩
    exact ⟨_, σ, rfl, Sub.refl σ, fun _ _ h => h, hS.grow hb, vr_tup σ us⟩
  unfold pureF at ho
  split at ho
  · split at ho
    case isFalse => cases ho
    rename_i s p hcond
    obtain ⟨rfl, h1, h2, h3⟩ := hcond
    rw [cr2 hcr]
    rw [cr2 hcr] at fin
    obtain ⟨q, rfl⟩ := Int.eq_ofNat_of_zero_le h2
    exact fin [.string _, .int .i64 0] (Option.some.inj ho).symm (by simpa using Nm.dir_calls s h1 q (by omega) w ht2)
  · split at ho
    case isFalse => cases ho
    rename_i b hcond
    obtain ⟨rfl, h2, h3⟩ := hcond
    rw [cr1 hcr]
    rw [cr1 hcr] at fin
    obtain ⟨q, rfl⟩ := Int.eq_ofNat_of_zero_le h2
    exact fin [.string _, .int .i64 0] (Option.some.inj ho).symm (by simpa using Nm.file_calls q (by omega) w ht2)
  · rename_i s
    rw [cr1 hcr]
    rw [cr1 hcr] at fin
    split at ho
    · subst f
      split at ho
      case isFalse => cases ho
      rename_i h
      obtain ⟨h1, h2, h3⟩ := h.choose_spec.choose_spec
      have := Nm.undir_calls h.choose h1 h.choose_spec.choose h2 w ht2
      rw [← h3] at this
      exact fin [.string _, .int .i32 _, .int .i64 0] (Option.some.inj ho).symm this
    · split at ho
      case isFalse => cases ho
      subst f
      split at ho
      case isFalse => cases ho
      rename_i h
      obtain ⟨h1, h3⟩ := h.choose_spec
      have := Nm.unfile_calls h.choose h1 w ht2
      rw [← h3] at this
      exact fin [.int .i64 _, .int .i64 0] (Option.some.inj ho).symm this
  · cases ho
end Go.Proofs.YtjpgpkkbmoehdaaDoor.Ra
