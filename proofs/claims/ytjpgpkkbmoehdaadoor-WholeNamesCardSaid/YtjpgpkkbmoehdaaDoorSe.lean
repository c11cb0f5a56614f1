/- Slices of bytes and numbers in cells. -/
import Derived.Test.YtjpgpkkbmoehdaaDoorSc
import Derived.Test.YtjpgpkkbmoehdaaDoorRt
namespace Go.Proofs.YtjpgpkkbmoehdaaDoor.Ra
open Go Go.RowKit
set_option linter.unusedVariables false
set_option linter.unusedSimpArgs false
set_option maxRecDepth 10000
theorem szB : szOf Tryd.prog 28 = some 1 := by kernel_rfl
theorem szI : szOf Tryd.prog 3 = some 1 := by kernel_rfl
theorem uI : Tryd.prog.underlying 3 = some (.int .i64) := Tryd.underlying3
/-- A store of one cell. -/
theorem arl_storeC {P : Program} {sd : Bool} {ops : Array Oper} {n0 j : Nat} {o : Oper} {l : List Oper} {fr : AFr} {st : St} {Q : AFr → St → Prop} {p w : Operand} {i g off : Nat} {t e : TypeId} {cs : List AV} {x : AV} (hd : o.dst = none) (hw : awanted ops fr o = true) (ho : o.op = .store t p w) (hp : aeval fr p = .ptr i off) (hy : aeval fr w = x)
    (h : st.get i = some ⟨cs, e, true, g⟩) (hs : szOf P t = some 1) (hc : x.cells = [x]) (h1 : x.one = true) (h2 : x.solid = true) (hk : off < cs.length) (hq : ARL P sd ops n0 (j + 1) l fr ((st.touch g off 1).put i ⟨cs.set off x, e, true, g⟩) Q) : ARL P sd ops n0 j (o :: l) fr st Q := by
  refine arl_none hd hw (y := .pl undef) ?_ rfl (by rw [ho]; rfl) hq
  simp only [aop, ho, hp, hy, astore, h, hs]
  rw [if_pos ⟨trivial, by rw [hc]; rfl, by omega, h2, by rw [hc]; simp [h1]⟩]
  have e : splice cs off x.cells = cs.set off x := by
    rw [hc]
    apply List.ext_getElem?
    intro q
    simp only [splice, List.length_cons, List.length_nil, List.getElem?_set]
    by_cases h1 : q < off
    · rw [List.append_assoc, List.getElem?_append_left (by simp; omega), List.getElem?_take, if_pos h1, if_neg (by omega)]
    · by_cases h2 : q = off
      · subst h2
        rw [List.append_assoc, List.getElem?_append_right (by simp; omega)]
        simp [hk, Nat.min_eq_left (Nat.le_of_lt hk)]
      · rw [List.append_assoc, List.getElem?_append_right (by simp; omega), List.getElem?_append_right (by simp; omega), List.getElem?_drop, if_neg (by omega)]
        congr 1
        simp
        omega
  rw [e]
  rfl
theorem RdB.isSl {st : St} {K : Nat → Prop} {v : AV} {xs : List Int} (h : RdB st K v xs) : (∃ q n c, v = .pl (.slice q n c)) ∨ ∃ i off n es, v = .sl i off n es := by
  rcases h with ⟨_, ⟨q, c, rfl⟩ | ⟨i, off, es, rfl⟩⟩ | ⟨i, off, es, o, rfl, _⟩
  · exact .inl ⟨_, _, _, rfl⟩
  · exact .inr ⟨_, _, _, _, rfl⟩
  · exact .inr ⟨_, _, _, _, rfl⟩
theorem RdB.cell {st : St} {K : Nat → Prop} {v : AV} {xs : List Int} (h : RdB st K v xs) : v.cells = [v] ∧ v.one = true := by
  rcases h.isSl with ⟨q, n, c, rfl⟩ | ⟨i, off, n, es, rfl⟩ <;> exact ⟨rfl, rfl⟩
theorem RdB.nil {st : St} {K : Nat → Prop} {v : AV} {xs : List Int} (h : RdB st K v xs) : ∃ b, abin Tryd.prog .eql 28 v (.pl (.slice none 0 0)) = some (.bool b) ∧ (b = true → xs = []) := by
  rcases h with ⟨h1, ⟨q, c, rfl⟩ | ⟨i, off, es, rfl⟩⟩ | ⟨i, off, es, o, rfl, _⟩
  · exact ⟨q.isNone, by simp [abin, uB, isSliceD, aeqOp], fun _ => h1⟩
  · exact ⟨false, by simp [abin, uB, isSliceD, aeqOp], fun h => by cases h⟩
  · exact ⟨false, by simp [abin, uB, isSliceD, aeqOp], fun h => by cases h⟩
theorem ldB {st : St} {i off : Nat} {o : AObj} {c : AV} (h : st.get i = some o) (hc : o.cells[off]? = some c) : aload Tryd.prog st 28 (.ptr i off) = some c := load_at uB rfl szB h hc
theorem ldI {st : St} {i off : Nat} {o : AObj} {c : AV} (h : st.get i = some o) (hc : o.cells[off]? = some c) : aload Tryd.prog st 3 (.ptr i off) = some c := load_at uI rfl szI h hc
theorem RdB.cuts {st : St} {K : Nat → Prop} {v : AV} {xs : List Int} (h : RdB st K v xs) (lo hi : Option AV) (a b : Nat) (hlo : lo = some (i64 a) ∨ (lo = none ∧ a = 0)) (hhi : hi = some (i64 b) ∨ (hi = none ∧ b = xs.length)) (hab : a ≤ b) (hb : b ≤ xs.length) :
    ∃ v', aslice Tryd.prog 28 v lo hi = some v' ∧ v'.solid = true ∧ RdB st K v' ((xs.drop a).take (b - a)) := by
  have hh : ahigh xs.length hi = some b := by
    rcases hhi with rfl | ⟨rfl, rfl⟩
    · simp [ahigh]; omega
    · rfl
  have hl : alow b lo = some a := by
    rcases hlo with rfl | ⟨rfl, rfl⟩
    · simp [alow]; omega
    · rfl
  have hlen : ((xs.drop a).take (b - a)).length = b - a := by simp; omega
  rcases h with ⟨rfl, ⟨q, c, rfl⟩ | ⟨i, off, e, rfl⟩⟩ | ⟨i, off, e, o, rfl, h2, h3, h4, h5⟩
  · refine ⟨.pl (.slice q 0 c), ?_, rfl, .inl ⟨by simp, .inl ⟨_, _, rfl⟩⟩⟩
    simp only [List.length_nil] at hh
    simp [aslice, uB, sz5, hh, hl]
  · simp only [List.length_nil] at hh hb
    obtain rfl : b = 0 := by omega
    obtain rfl : a = 0 := by omega
    refine ⟨.sl i (off + 0 * 1) (0 - 0) (bif e then 1 else 0), ?_, rfl, .inl ⟨by simp, .inr ⟨_, _, e, rfl⟩⟩⟩
    cases e <;> simp [aslice, uB, sz5, hh, hl]
  · refine ⟨.sl i (off + a * 1) (b - a) (bif e then 1 else 0), ?_, rfl, .inr ⟨i, off + a, e, o, by rw [hlen, Nat.mul_one], h2, h3, by rw [hlen]; omega, fun j x hx => ?_⟩⟩
    · cases e <;> simp [aslice, uB, sz5, hh, hl]
    · rw [List.getElem?_take] at hx
      split at hx
      · rw [List.getElem?_drop] at hx
        rw [Nat.add_assoc]
        exact h5 _ _ hx
      · cases hx
end Go.Proofs.YtjpgpkkbmoehdaaDoor.Ra
