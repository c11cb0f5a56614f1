/- Contracts of functions that were walked by hand. -/
import Derived.Test.YtlpgpggaagfdnaaDoorHl
import Derived.Test.YtlpgpggaagfdnaaDoorProg
import Derived.Below
import Derived.Deep.Draws
import Derived.Deep.AppendLies
import Derived.Maps.AppendAt
import Derived.OwnWalk
import Derived.Laws.BytesArg
import Derived.Laws.MakeOwn
import Derived.Laws.OwnMore
import Derived.Deep.OwnRows
import Derived.Tactics
import Derived.Lib.ConvBytes
import Derived.Laws.Slices
import Derived.WalkKit
import Derived.KernelRfl
import Derived.RowKit3
import Derived.Deep.LoopGhost
import Derived.Deep.QuietTactic
import Derived.BigQuiet
import Derived.WideLaws
import Derived.Deep.DeepCutAuto
import Derived.Deep.CutBlock
import Derived.Deep.RegionHeld3
import Derived.Laws.Rows
import Derived.Lib.AppendStr
import Derived.ArgAppend
import Derived.Laws.IdiomCopy
import Derived.OrdersHeld
import Derived.Laws.BitsLemmas
import Derived.RowKit
import Derived.Test.YtlpgpggaagfdnaaDoorWWords
import Derived.Test.YtlpgpggaagfdnaaDoorWLast
import Derived.Test.YtlpgpggaagfdnaaDoorWTab
import Derived.Test.YtlpgpggaagfdnaaDoorWFour
import Derived.Test.YtlpgpggaagfdnaaDoorWQPut
import Derived.Test.YtlpgpggaagfdnaaDoorWApart
import Derived.Test.YtlpgpggaagfdnaaDoorWArr
import Derived.Test.YtlpgpggaagfdnaaDoorWZeros
import Derived.Test.YtlpgpggaagfdnaaDoorWFoot
import Derived.Test.YtlpgpggaagfdnaaDoorWKept
import Derived.Test.YtlpgpggaagfdnaaDoorWShare
import Derived.Test.YtlpgpggaagfdnaaDoorWN
import Derived.Test.YtlpgpggaagfdnaaDoorWFootNe
import Derived.Test.YtlpgpggaagfdnaaDoorWAt
import Derived.Test.YtlpgpggaagfdnaaDoorWEqStruct
import Derived.Test.YtlpgpggaagfdnaaDoorWRepsOne
import Derived.Test.YtlpgpggaagfdnaaDoorWInv
import Derived.Test.YtlpgpggaagfdnaaDoorWInvWords
import Derived.Test.YtlpgpggaagfdnaaDoorWGuard
import Derived.Test.YtlpgpggaagfdnaaDoorWNEv
import Derived.Test.YtlpgpggaagfdnaaDoorWMore
import Derived.ChangeKeysEq
namespace Go.Proofs.YtlpgpggaagfdnaaDoor.Q
open Go.RowKit Go.Proofs.YtlpgpggaagfdnaaDoorW.PrintWords Go.Proofs.YtlpgpggaagfdnaaDoorW.PrintLast Go.Proofs.YtlpgpggaagfdnaaDoorW.PrintMore
attribute [local go_sem] max2_int min2_int max_two min_two max_three min_three max_four min_four
set_option linter.unusedVariables false
set_option linter.unusedSimpArgs false
theorem alloc_top1 (w : World) (o o' : Obj) : ((w.alloc o).alloc o').heap[w.heap.size]? = some o := by
  refine blk_alloc ?_ _
  show (w.heap.push o)[w.heap.size]? = some o
  simp only [Array.getElem?_push_size]
theorem alloc_top2 (w : World) (o o' : Obj) : ((w.alloc o).alloc o').heap[w.heap.size + 1]? = some o' := by
  have h : (w.alloc o).heap.size = w.heap.size + 1 := by simp
  rw [← h]
  show ((w.alloc o).heap.push o')[(w.alloc o).heap.size]? = some o'
  simp only [Array.getElem?_push_size]
theorem sq_start : ([Value.int .u32 0, Value.int .u32 0, Value.int .u32 0, Value.int .u32 0, Value.int .u32 0, Value.int .u32 0, Value.int .u32 0, Value.int .u32 0, Value.int .u32 0, Value.int .u32 0, Value.int .u32 0, Value.int .u32 0, Value.int .u32 0, Value.int .u32 0, Value.int .u32 0, Value.int .u32 0, Value.int .u32 0, Value.int .u32 0, Value.int .u32 0, Value.int .u32 0, Value.int .u32 0, Value.int .u32 0, Value.int .u32 0, Value.int .u32 0, Value.int .u32 0, Value.int .u32 0, Value.int .u32 0, Value.int .u32 0, Value.int .u32 0, Value.int .u32 0, Value.int .u32 0, Value.int .u32 0]).toArray = ((List.replicate 32 (0 : Int)).map (Value.int .u32)).toArray := rfl
theorem row_set (M : List Int) (k n : Nat) (x : Int) (hk : k + 1 ≤ n) (hx : M[k]? = some x) :
    (((M.take k ++ List.replicate (n - k) (0 : Int)).map (Value.int .u32)).toArray).setIfInBounds k (.int .u32 x) = ((M.take (k + 1) ++ List.replicate (n - (k + 1)) (0 : Int)).map (Value.int .u32)).toArray := by
  apply Array.toList_inj.1
  obtain ⟨hk2, hx2⟩ := List.getElem?_eq_some_iff.1 hx
  rw [Array.toList_setIfInBounds, ← List.map_set, List.set_append_right _ _ (by simp; omega)]
  simp only [List.length_take, Nat.min_eq_left (Nat.le_of_lt hk2), Nat.sub_self]
  rw [show n - k = (n - (k + 1)) + 1 by omega, List.replicate_succ, List.set_cons_zero, List.take_succ_eq_append_getElem hk2, hx2, List.append_assoc]
  rfl
set_option maxHeartbeats 8000000 in
set_option maxRecDepth 100000 in
theorem crc_squared_calls (g : Nat) (ms : List Int) (w : World) (hm : Kd.C (Kd.int .u32) w (some ⟨g, 0, none⟩) 32 ms) (hb : ∀ x ∈ ms, 0 ≤ x ∧ x < 4294967296) :
    Calls Tryd.prog 28 #[.pointer (some ⟨g, 0, none⟩)] w fun e w' => e = .returned (.agg ((ms.map (mOf ms)).map (Value.int .u32)).toArray) ∧ Below w.heap.size w w' := by
  have HM := Aside0.mk hm
  have hl32 : ms.length = 32 := hm.1
  clear hm
  have hu := Tryd.underlying53
  go_enter Tryd.func28, Tryd.ntmps28
  go_wp2
  go_loopw [4, 5] (fun v4 v5 wr => ∃ (k : Nat), v5 = .int .i64 k ∧ k ≤ 32 ∧ Aside0 (Below w.heap.size w wr ∧ wr.heap[w.heap.size]? = some (.cells ((List.replicate 32 (0 : Int)).map (Value.int .u32)).toArray 53 (0, 0)) ∧ wr.heap[w.heap.size + 1]? = some (.cells (((ms.map (mOf ms)).take k ++ List.replicate (32 - k) 0).map (Value.int .u32)).toArray 53 (0, 0)))) (fun _ v _ => 32 - (intOf v).toNat)
  case atStart => exact ⟨0, rfl, by omega, ⟨⟨below_alloc (below_alloc (Below.refl _ _) _) _, (by rw [← sq_start]; exact alloc_top1 _ _ _), by rw [List.take_zero, List.nil_append, Nat.sub_zero, ← sq_start]; exact alloc_top2 _ _ _⟩⟩⟩
  case round =>
    obtain ⟨k, rfl, hk, HW⟩ := hrel
    have hbel := HW.out.1
    have hcells := HW.out.2.2
    have hsz := HW.out.2.1
    have HZ := Aside0.mk hsz
    have hmr := Kd.C_below HM.out hbel
    by_cases hk2 : k < 32
    · have p1 : ((k : Int) < 32) = True := eq_true (by omega)
      have p2 : ((0 : Int) ≤ (k : Int)) = True := eq_true (by omega)
      obtain ⟨d1, f1, hc1⟩ := Kd.at_int hmr (k : Int) (by omega) (by omega)
      cases f1
      rw [add_plain, Int.toNat_natCast] at hc1
      have hk3 : k < (ms.map (mOf ms)).length := by rw [List.length_map]; omega
      have hx2 : rd ms (k : Int) = ms[k]'(by omega) := by
        unfold rd
        rw [Int.toNat_natCast, List.getD_eq_getElem?_getD, List.getElem?_eq_getElem (by omega)]
        rfl
      have hx := hb (rd ms (k : Int)) (by rw [hx2]; exact List.getElem_mem _)
      have hM : (ms.map (mOf ms))[k]? = some (mOf ms (rd ms (k : Int))) := by
        rw [List.getElem?_map, List.getElem?_eq_getElem (by omega), hx2]
        rfl
      obtain ⟨old, hold⟩ : ∃ old, wr.cell? ⟨w.heap.size + 1, k, none⟩ = some old := by
        rw [blk_cell hcells k]
        exact ⟨_, Array.getElem?_eq_getElem (by simp; omega)⟩
      have hfz : wr.frozen? ⟨w.heap.size + 1, k, none⟩ = false := frozen_of_row _ _ _ _ _ hcells
      have hset := blk_set hcells k (.int .u32 (mOf ms (rd ms (k : Int))))
      rw [row_set _ k 32 _ (by omega) hM] at hset
      have HS := Aside0.mk hset
      have HM2 := Aside0.mk hmr
      have HB := Aside0.mk hbel
      have HX := Aside0.mk hx
      clear hcells hsz hmr hbel hM hset hx hx2 hk3
      go_wp2_with (first | ((with_reducible refine gate_callee (f := 27) rfl ?_); refine goesL_ (some 15) rfl rfl Tryd.func27 (by kernel_rfl) rfl #[.pointer (some ⟨g, 0, none⟩), .int .u32 (rd ms (k : Int))] rfl (by (try simp only [List.map_toArray, List.map_cons, List.map_nil]); first | done | rfl) ?_; (with_reducible refine (crc_of_calls g ms (rd ms (k : Int)) wr HM2.out HX.out.1 HX.out.2).mono ?_); rintro e w2 ⟨rfl, rfl⟩; refine ⟨_, rfl, ?_⟩))
      refine ⟨⟨k + 1, by go_num, by omega, ⟨⟨Below.setCell HB.out (Nat.le_succ _) _, (Below.heap_setCell _ ⟨w.heap.size + 1, k, none⟩ _ _ (by show w.heap.size ≠ w.heap.size + 1; omega)).trans HZ.out, HS.out⟩⟩⟩, ?_⟩
      simp [intOf]
      omega
    · have p1 : ((k : Int) < 32) = False := eq_false (by omega)
      obtain rfl : k = 32 := by omega
      have hcells2 : wr.heap[w.heap.size + 1]? = some (.cells ((ms.map (mOf ms)).map (Value.int .u32)).toArray 53 (0, 0)) := by
        rw [hcells, List.take_of_length_le (by simp; omega)]; simp
      clear hcells
      obtain ⟨M, hMd⟩ : ∃ M, M = (ms.map (mOf ms)).map (Value.int .u32) := ⟨_, rfl⟩
      have hMl : M.length = 32 := by rw [hMd, List.length_map, List.length_map, hl32]
      have hM1 : ∀ v ∈ M, v.oneCell' = true := by
        rw [hMd]
        intro v hv
        obtain ⟨x, _, rfl⟩ := List.mem_map.1 hv
        rfl
      rw [← hMd] at hcells2
      have HR := Aside0.mk hMd
      clear hMd
      have hi32 : (Tryd.prog.info? 53).map (·.size) = some M.toArray.size := by
        rw [List.size_toArray, hMl]
        kernel_rfl
      have hthere : wr.there w.heap.size 0 M.toArray.size := fun i hi => by
        rw [List.size_toArray, hMl] at hi
        rw [Nat.zero_add]
        exact ⟨by rw [blk_cell hsz i, Array.getElem?_eq_getElem (by simp; omega)]; rfl, frozen_of_row _ _ _ _ _ hsz⟩
      obtain ⟨cur', hcur, hcs, hcl⟩ := setCells_row M 0 wr _ hsz (by simp; omega)
      have hfar := setCells_far (g := w.heap.size) M 0 (w := wr)
      obtain ⟨s1, s2, s3, s4⟩ := setCells_same w.heap.size M 0 wr
      obtain ⟨w3, hw3⟩ : ∃ w3, w3 = wr.setCells w.heap.size 0 M := ⟨_, rfl⟩
      rw [← hw3] at hcur hfar s1 s2 s3 s4
      have hcur' : cur' = M.toArray := by
        apply Array.toList_inj.1
        rw [hcl, List.drop_of_length_le (by simp; omega)]
        simp
      subst hcur'
      have hend : Aside0 (Below w.heap.size w w3) := ⟨⟨s1.trans hbel.os, s2.trans hbel.tape, s3.trans hbel.output, by rw [s4]; exact hbel.size, fun k hk => (hfar k (by omega)).trans (hbel.block k hk)⟩⟩
      have HC := Aside0.mk hcur
      have HS3 := Aside0.mk hw3
      clear hcur hfar s1 s2 s3 s4 hw3 hcs hcl hbel hsz HW HZ hmr HM hb hl32 p1
      go_wp2_with (first | (refine wpList_load_row rfl 53 (.tmp 3) rfl (w.heap.size + 1) rfl 53 _ (0, 0) _ hcells2 hu rfl hi32 ?_) | (refine wpList_store_mid rfl 53 (.tmp 2) (.tmp 18) rfl w.heap.size 0 M.toArray rfl rfl hthere hi32 (all_oneCell_toArray hM1) ?_; rw [show wr.setCells w.heap.size 0 M.toArray.toList = w3 from HS3.out.symm]))
      refine bodyPost_ret (v := .agg M.toArray) ?_ rfl ⟨by rw [HR.out], hend.out⟩
      exact results_cell_row rfl _ _ w.heap.size 53 M.toArray (0, 0) _ rfl HC.out hu rfl hi32

end Go.Proofs.YtlpgpggaagfdnaaDoor.Q
