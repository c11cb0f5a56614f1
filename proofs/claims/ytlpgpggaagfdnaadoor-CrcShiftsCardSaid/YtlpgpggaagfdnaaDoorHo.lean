/- Contracts of functions that were walked by hand. -/
import Derived.Test.YtlpgpggaagfdnaaDoorHn
import Derived.Test.YtlpgpggaagfdnaaDoorProg
import Derived.Below
import Derived.Deep.Draws
import Derived.Deep.AppendLies
import Derived.Maps.AppendAt
import Derived.OwnWalk
import Derived.Laws.BytesArg
import Derived.Laws.MakeOwn
import Derived.Laws.OwnMore
import Derived.Deep.OwnRows
import Derived.Tactics
import Derived.Lib.ConvBytes
import Derived.Laws.Slices
import Derived.WalkKit
import Derived.KernelRfl
import Derived.RowKit3
import Derived.Deep.LoopGhost
import Derived.Deep.QuietTactic
import Derived.BigQuiet
import Derived.WideLaws
import Derived.Deep.DeepCutAuto
import Derived.Deep.CutBlock
import Derived.Deep.RegionHeld3
import Derived.Laws.Rows
import Derived.Lib.AppendStr
import Derived.ArgAppend
import Derived.Laws.IdiomCopy
import Derived.OrdersHeld
import Derived.Laws.BitsLemmas
import Derived.RowKit
import Derived.Test.YtlpgpggaagfdnaaDoorWWords
import Derived.Test.YtlpgpggaagfdnaaDoorWLast
import Derived.Test.YtlpgpggaagfdnaaDoorWTab
import Derived.Test.YtlpgpggaagfdnaaDoorWFour
import Derived.Test.YtlpgpggaagfdnaaDoorWQPut
import Derived.Test.YtlpgpggaagfdnaaDoorWApart
import Derived.Test.YtlpgpggaagfdnaaDoorWArr
import Derived.Test.YtlpgpggaagfdnaaDoorWZeros
import Derived.Test.YtlpgpggaagfdnaaDoorWFoot
import Derived.Test.YtlpgpggaagfdnaaDoorWKept
import Derived.Test.YtlpgpggaagfdnaaDoorWShare
import Derived.Test.YtlpgpggaagfdnaaDoorWN
import Derived.Test.YtlpgpggaagfdnaaDoorWFootNe
import Derived.Test.YtlpgpggaagfdnaaDoorWAt
import Derived.Test.YtlpgpggaagfdnaaDoorWEqStruct
import Derived.Test.YtlpgpggaagfdnaaDoorWRepsOne
import Derived.Test.YtlpgpggaagfdnaaDoorWInv
import Derived.Test.YtlpgpggaagfdnaaDoorWInvWords
import Derived.Test.YtlpgpggaagfdnaaDoorWGuard
import Derived.Test.YtlpgpggaagfdnaaDoorWNEv
import Derived.Test.YtlpgpggaagfdnaaDoorWMore
import Derived.ChangeKeysEq
namespace Go.Proofs.YtlpgpggaagfdnaaDoor.Q
open Go.RowKit Go.Proofs.YtlpgpggaagfdnaaDoorW.PrintWords Go.Proofs.YtlpgpggaagfdnaaDoorW.PrintLast Go.Proofs.YtlpgpggaagfdnaaDoorW.PrintMore
attribute [local go_sem] max2_int min2_int max_two min_two max_three min_three max_four min_four
set_option linter.unusedVariables false
set_option linter.unusedSimpArgs false
theorem store_mid_to {P : Program} {ops : Array Oper} {rest : List Oper} {op : Oper} {a : Act} {w : World} {Q : Exit → Act → World → Prop} (hgd : op.guard = none) (ty : TypeId) (x y : Operand) (ho : op.op = .store ty x y)
    (b o : Nat) (cells : Array Value) (hx : a.eval x = .pointer (some ⟨b, o, none⟩)) (hy : a.eval y = .agg cells)
    (ht : w.there b o cells.size) (hi : (P.info? ty).map (·.size) = some cells.size) (h1 : cells.all (·.oneCell') = true) {w3 : World} (hw : w.setCells b o cells.toList = w3)
    (h : wpList P ops Q rest (a.put op.dst undef) w3) : wpList P ops Q (op :: rest) a w := by
  subst hw
  exact wpList_store_mid hgd ty x y ho b o cells hx hy ht hi h1 h
theorem xorR (a b : Int) : 0 ≤ Go.bits .xor .u32 a b ∧ Go.bits .xor .u32 a b < 4294967296 := by
  have e : Go.bits .xor .u32 a b = IntKind.u32.wrap ((BitVec.ofInt 32 a ^^^ BitVec.ofInt 32 b).toNat : Int) := rfl
  rw [e, IntKind.wrap_u32]
  omega
theorem mOfL_range (ms : List Int) : ∀ (n : Nat) (s i out : Int), 0 ≤ out ∧ out < 4294967296 → 0 ≤ mOfL ms n s i out ∧ mOfL ms n s i out < 4294967296
  | 0, _, _, _, h => h
  | n + 1, s, i, out, h => by
    rw [mOfL]
    split
    · exact h
    · refine mOfL_range ms n _ _ _ ?_
      split
      · exact h
      · exact xorR _ _
theorem mOf_range (ms : List Int) (s : Int) : 0 ≤ mOf ms s ∧ mOf ms s < 4294967296 := mOfL_range ms 32 s 0 0 ⟨by omega, by omega⟩
theorem zstep_range {s : Int} (h : 0 ≤ s ∧ s < 4294967296) : 0 ≤ zstep s ∧ zstep s < 4294967296 := by
  unfold zstep
  split
  · omega
  · exact xorR _ _
theorem zsteps_range : ∀ (n : Nat) {s : Int}, 0 ≤ s ∧ s < 4294967296 → 0 ≤ zsteps n s ∧ zsteps n s < 4294967296
  | 0, _, h => h
  | n + 1, _, h => zsteps_range n (zstep_range h)
theorem zrow_range : ∀ x ∈ zrow, 0 ≤ x ∧ x < 4294967296 := by
  intro x hx
  obtain ⟨i, _, rfl⟩ := List.mem_map.1 hx
  exact zsteps_range 8 (by omega)
theorem row_store {M : List Value} {B : Nat} {wr : World} {cs : Array Value} {e : TypeId} (hB : wr.heap[B]? = some (.cells cs e (0, 0))) (hl : M.length = cs.size) :
    ∃ w3, w3 = wr.setCells B 0 M ∧ w3.heap[B]? = some (.cells M.toArray e (0, 0)) ∧ (∀ b w, b ≤ B → Below b w wr → Below b w w3) ∧ wr.there B 0 M.toArray.size := by
  obtain ⟨cur', hcur, hcs, hcl⟩ := setCells_row M 0 wr _ hB (by omega)
  have hfar := setCells_far (g := B) M 0 (w := wr)
  obtain ⟨s1, s2, s3, s4⟩ := setCells_same B M 0 wr
  refine ⟨_, rfl, ?_, ?_, ?_⟩
  · have hcur' : cur' = M.toArray := by
      apply Array.toList_inj.1
      rw [hcl, List.drop_of_length_le (by simp; omega)]
      simp
    rw [← hcur']
    exact hcur
  · exact fun b w hb h => ⟨s1.trans h.os, s2.trans h.tape, s3.trans h.output, by rw [s4]; exact h.size, fun k hk => (hfar k (by omega)).trans (h.block k hk)⟩
  · intro i hi
    rw [List.size_toArray, hl] at hi
    rw [Nat.zero_add]
    exact ⟨by rw [blk_cell hB i, Array.getElem?_eq_getElem hi]; rfl, frozen_of_row _ _ _ _ _ hB⟩
theorem C_of_block {B : Nat} {w : World} {ms : List Int} {e : TypeId} (hB : w.heap[B]? = some (.cells (ms.map (Value.int .u32)).toArray e (0, 0))) (hl : ms.length = 32) : Kd.C (Kd.int .u32) w (some ⟨B, 0, none⟩) 32 ms := by
  refine ⟨hl, by decide, fun _ => ⟨_, rfl, fun j p hj => ⟨[.int .u32 p], rfl, rfl, fun i u hu => ?_⟩⟩⟩
  obtain ⟨rfl, rfl⟩ : i = 0 ∧ u = .int .u32 p := by cases i with | zero => simpa using hu.symm | succ i => simp at hu
  have e2 : (⟨B, 0, none⟩ : Addr).add (j * (Kd.int .u32).sz + 0) = ⟨B, j, none⟩ := by rw [show j * (Kd.int .u32).sz + 0 = j from by show j * 1 + 0 = j; omega]; exact add_plain B j
  rw [e2, blk_cell hB j]
  simp [hj]
theorem oneCell_ints {ms : List Int} : ∀ v ∈ ms.map (Value.int .u32), v.oneCell' = true := by
  intro v hv
  obtain ⟨x, _, rfl⟩ := List.mem_map.1 hv
  rfl
/-- Link's rounds: so many at most. -/
def linkL : Nat → List Int → Int → Int → Int
  | 0, _, a, _ => a
  | r + 1, ms, a, n => if 0 < n then linkL r (ms.map (mOf ms)) (if Go.bits .and .i64 n 1 = 0 then a else mOf ms a) (n / 2) else a
theorem linkL_neg (r : Nat) (ms : List Int) (a n : Int) (h : n ≤ 0) : linkL r ms a n = a := by
  cases r with
  | zero => rfl
  | succ r => rw [linkL, if_neg (by omega)]
def crc_Link.f (a1 a2 a3 : Int) : Option Int := if 0 ≤ a1 ∧ a1 < 4294967296 ∧ a3 < 9223372036854775808 then some (Go.bits .xor .u32 (linkL 64 zrow a1 a3) a2) else none
set_option maxHeartbeats 8000000 in
set_option maxRecDepth 100000 in
theorem crc_Link.calls (a1 a2 a3 : Int) (r : Int) (w : World) (h : crc_Link.f a1 a2 a3 = some r) :
    Calls Tryd.prog 23 #[.int .u32 a1, .int .u32 a2, .int .i64 a3] w fun e w' => e = .returned (.int .u32 r) ∧ Below w.heap.size w w' := by
  unfold crc_Link.f at h
  split at h
  case isFalse => exact absurd h (by simp)
  rename_i hr
  obtain ⟨hr1, hr2, hr3⟩ := hr
  injection h with h
  have HE := Aside0.mk h
  clear h
  have hu := Tryd.underlying53
  have hi32 : ∀ ms : List Int, ms.length = 32 → (Tryd.prog.info? 53).map (·.size) = some (ms.map (Value.int .u32)).toArray.size := by
    intro ms hl
    rw [List.size_toArray, List.length_map, hl]
    kernel_rfl
  go_enter Tryd.func23, Tryd.ntmps23
  obtain ⟨Z, hZ⟩ : ∃ Z, Z = zrow.map (Value.int .u32) := ⟨_, rfl⟩
  have hzb : ∀ w, Calls Tryd.prog 26 #[] w fun e w' => e = .returned (.agg Z.toArray) ∧ Below w.heap.size w w' := by
    rw [hZ]
    exact crc_zeroByte_calls
  have hZl : Z.length = 32 := by rw [hZ, List.length_map]; simp [zrow]
  have hZ32 : (Tryd.prog.info? 53).map (·.size) = some Z.toArray.size := by rw [hZ]; exact hi32 zrow (by simp [zrow])
  have hZ1 : ∀ v ∈ Z, v.oneCell' = true := by rw [hZ]; exact oneCell_ints
  have hst : ∀ w1 : World, Below w.heap.size w w1 → ∃ w3, (w1.alloc (Obj.cells ((List.replicate 32 (0 : Int)).map (Value.int .u32)).toArray 53 (0, 0))).setCells w1.heap.size 0 Z = w3 ∧ w3.heap[w1.heap.size]? = some (.cells Z.toArray 53 (0, 0)) ∧ Below w.heap.size w w3 ∧ (w1.alloc (Obj.cells ((List.replicate 32 (0 : Int)).map (Value.int .u32)).toArray 53 (0, 0))).there w1.heap.size 0 Z.toArray.size := by
    intro w1 hb
    have hB : (w1.alloc (Obj.cells ((List.replicate 32 (0 : Int)).map (Value.int .u32)).toArray 53 (0, 0))).heap[w1.heap.size]? = some (Obj.cells ((List.replicate 32 (0 : Int)).map (Value.int .u32)).toArray 53 (0, 0)) := by
      show (w1.heap.push _)[w1.heap.size]? = _
      simp only [Array.getElem?_push_size]
    obtain ⟨w3, e3, h3, b3, t3⟩ := row_store (M := Z) hB (by rw [hZl]; simp)
    exact ⟨w3, e3.symm, h3, b3 _ _ hb.size (below_alloc hb _), t3⟩
  clear hi32
  have HZ := Aside0.mk hZ
  clear hZ
  go_wp2_with (first | ((with_reducible refine gate_callee (f := 26) rfl ?_); refine goesL_ (some 8) rfl rfl Tryd.func26 (by kernel_rfl) rfl #[] rfl (by (try simp only [List.map_toArray, List.map_cons, List.map_nil]); first | done | rfl) ?_; (with_reducible refine (hzb w).mono ?_); rintro e w1 ⟨rfl, hb1⟩; refine ⟨_, rfl, ?_⟩; obtain ⟨w3, e3, h3, b3, t3⟩ := hst w1 hb1) | (refine store_mid_to rfl 53 (.tmp 7) (.tmp 8) rfl w1.heap.size 0 Z.toArray rfl rfl t3 hZ32 (all_oneCell_toArray hZ1) e3 ?_; clear e3 t3))
  have hBB : w.heap.size ≤ w1.heap.size := hb1.size
  generalize w1.heap.size = B at h3 hBB ⊢
  clear hst hzb hZ1 hZ32 hZl hb1
  go_wp2
  go_simp
  go_loopw [0, 2] (fun v0 v2 wr => ∃ (ms : List Int) (a n : Int) (k : Nat), v0 = .int .u32 a ∧ v2 = .int .i64 n ∧ Aside0 (ms.length = 32 ∧ (∀ x ∈ ms, 0 ≤ x ∧ x < 4294967296) ∧ 0 ≤ a ∧ a < 4294967296 ∧ n < 2 ^ k ∧ n < 9223372036854775808 ∧ Go.bits .xor .u32 (linkL k ms a n) a2 = r ∧ Below w.heap.size w wr ∧ wr.heap[B]? = some (.cells (ms.map (Value.int .u32)).toArray 53 (0, 0)))) (fun _ v _ => (intOf v).toNat)
  case atStart => exact ⟨zrow, a1, a3, 64, rfl, rfl, ⟨⟨by simp [zrow], zrow_range, hr1, hr2, by omega, hr3, HE.out, b3, by rw [h3, HZ.out]⟩⟩⟩
  case round =>
    obtain ⟨ms, a, n, k, rfl, rfl, HI⟩ := hrel
    by_cases hn : 0 < n
    · have p1 : (0 < n) = True := eq_true hn
      have HJ := HI.out
      obtain ⟨i1, i2, i3, i4, i5, i6, i7, i8, i9⟩ := HJ
      have hk : k ≠ 0 := by rintro rfl; simp at i5; omega
      obtain ⟨k, rfl⟩ : ∃ m, k = m + 1 := ⟨k - 1, by omega⟩
      rw [linkL, if_pos hn] at i7
      have i5' : n / 2 < 2 ^ k := by rw [Int.pow_succ] at i5; omega
      have hm32 : (ms.map (mOf ms)).length = 32 := by rw [List.length_map, i1]
      have hmr : ∀ x ∈ ms.map (mOf ms), 0 ≤ x ∧ x < 4294967296 := by
        intro x hx
        obtain ⟨y, _, rfl⟩ := List.mem_map.1 hx
        exact mOf_range ms y
      obtain ⟨M, hMd⟩ : ∃ M, M = (ms.map (mOf ms)).map (Value.int .u32) := ⟨_, rfl⟩
      have hMl : M.length = 32 := by rw [hMd, List.length_map, hm32]
      have hsq : Aside0 (Calls Tryd.prog 28 #[.pointer (some ⟨B, 0, none⟩)] wr fun e w' => e = .returned (.agg M.toArray) ∧ Below wr.heap.size wr w') := by
        rw [hMd]
        exact ⟨crc_squared_calls B ms wr (C_of_block i9 i1) i2⟩
      have hof : Aside0 (Calls Tryd.prog 27 #[.pointer (some ⟨B, 0, none⟩), .int .u32 a] wr fun e w' => e = .returned (.int .u32 (mOf ms a)) ∧ wr = w') := ⟨crc_of_calls B ms a wr (C_of_block i9 i1) i3 i4⟩
      have hM32 : Aside0 ((Tryd.prog.info? 53).map (·.size) = some M.toArray.size) := by
        refine ⟨?_⟩
        rw [List.size_toArray, hMl]
        kernel_rfl
      have hM1 : Aside0 (∀ v ∈ M, v.oneCell' = true) := by rw [hMd]; exact ⟨oneCell_ints⟩
      have hst2 : Aside0 (∀ w5 : World, Below wr.heap.size wr w5 → ∃ w6, w5.setCells B 0 M = w6 ∧ w6.heap[B]? = some (.cells M.toArray 53 (0, 0)) ∧ Below w.heap.size w w6 ∧ w5.there B 0 M.toArray.size) := by
        refine ⟨fun w5 hb => ?_⟩
        obtain ⟨w6, e6, h6, b6, t6⟩ := row_store (M := M) (blk_below i9 hb) (by rw [hMl]; simp [i1])
        exact ⟨w6, e6.symm, h6, b6 _ _ hBB (below_step i8 hb), t6⟩
      have HD := Aside0.mk hMd
      have HR := Aside0.mk (And.intro hm32 hmr)
      have H3 := Aside0.mk (And.intro i3 i4)
      have H5 := Aside0.mk (And.intro i5' i6)
      clear i1 i2 i3 i4 i5 i5' i6 i8 i9 hm32 hmr hMd hMl HI
      obtain ⟨x, hx⟩ : ∃ x, Go.bits .and .i64 n 1 = x := ⟨_, rfl⟩
      rw [hx] at i7
      by_cases hb : x = 0
      · have b1 : (x == 0) = true := by simpa using hb
        have b2 : (x != 0) = false := by simpa using hb
        rw [if_pos hb] at i7
        have H7 := Aside0.mk i7
        clear i7 hb
        go_wp2_with (first | ((with_reducible refine gate_callee (f := 28) rfl ?_); refine goesL_ (some 18) rfl rfl Tryd.func28 (by kernel_rfl) rfl #[.pointer (some ⟨B, 0, none⟩)] rfl (by (try simp only [List.map_toArray, List.map_cons, List.map_nil]); first | done | rfl) ?_; (with_reducible refine hsq.out.mono ?_); rintro e w5 ⟨rfl, hb5⟩; refine ⟨_, rfl, ?_⟩; obtain ⟨w6, e6, h6, b6, t6⟩ := hst2.out w5 hb5) | (refine store_mid_to rfl 53 (.tmp 7) (.tmp 18) rfl B 0 M.toArray rfl rfl t6 hM32.out (all_oneCell_toArray hM1.out) e6 ?_; clear e6 t6))
        refine ⟨⟨ms.map (mOf ms), a, n / 2, k, rfl, rfl, ⟨⟨HR.out.1, HR.out.2, H3.out.1, H3.out.2, H5.out.1, by have := H5.out.2; omega, H7.out, b6, by rw [h6, HD.out]⟩⟩⟩, ?_⟩
        simp only [intOf]
        omega
      · have b1 : (x == 0) = false := by simpa using hb
        have b2 : (x != 0) = true := by simpa using hb
        rw [if_neg hb] at i7
        have H7 := Aside0.mk i7
        clear i7 hb
        go_wp2_with (first | ((with_reducible refine gate_callee (f := 27) rfl ?_); refine goesL_ (some 17) rfl rfl Tryd.func27 (by kernel_rfl) rfl #[.pointer (some ⟨B, 0, none⟩), .int .u32 a] rfl (by (try simp only [List.map_toArray, List.map_cons, List.map_nil]); first | done | rfl) ?_; (with_reducible refine hof.out.mono ?_); rintro e w2 ⟨rfl, rfl⟩; refine ⟨_, rfl, ?_⟩) | ((with_reducible refine gate_callee (f := 28) rfl ?_); refine goesL_ (some 18) rfl rfl Tryd.func28 (by kernel_rfl) rfl #[.pointer (some ⟨B, 0, none⟩)] rfl (by (try simp only [List.map_toArray, List.map_cons, List.map_nil]); first | done | rfl) ?_; (with_reducible refine hsq.out.mono ?_); rintro e w5 ⟨rfl, hb5⟩; refine ⟨_, rfl, ?_⟩; obtain ⟨w6, e6, h6, b6, t6⟩ := hst2.out w5 hb5) | (refine store_mid_to rfl 53 (.tmp 7) (.tmp 18) rfl B 0 M.toArray rfl rfl t6 hM32.out (all_oneCell_toArray hM1.out) e6 ?_; clear e6 t6))
        refine ⟨⟨ms.map (mOf ms), mOf ms a, n / 2, k, rfl, rfl, ⟨⟨HR.out.1, HR.out.2, (mOf_range ms a).1, (mOf_range ms a).2, H5.out.1, by have := H5.out.2; omega, H7.out, b6, by rw [h6, HD.out]⟩⟩⟩, ?_⟩
        simp only [intOf]
        omega
    · have p1 : (0 < n) = False := eq_false hn
      have HJ := HI.out
      rw [linkL_neg _ _ _ _ (by omega)] at HJ
      obtain ⟨i1, i2, i3, i4, i5, i6, i7, i8, i9⟩ := HJ
      clear i1 i2 i3 i4 i5 i6 i9 HI
      go_wp2
      go_ret
      exact ⟨rfl, i8⟩

end Go.Proofs.YtlpgpggaagfdnaaDoor.Q
