/- Contracts of functions that were walked by hand. -/
import Derived.Test.YtlpgpggaagfdnaaDoorHm
import Derived.Test.YtlpgpggaagfdnaaDoorProg
import Derived.Below
import Derived.Deep.Draws
import Derived.Deep.AppendLies
import Derived.Maps.AppendAt
import Derived.OwnWalk
import Derived.Laws.BytesArg
import Derived.Laws.MakeOwn
import Derived.Laws.OwnMore
import Derived.Deep.OwnRows
import Derived.Tactics
import Derived.Lib.ConvBytes
import Derived.Laws.Slices
import Derived.WalkKit
import Derived.KernelRfl
import Derived.RowKit3
import Derived.Deep.LoopGhost
import Derived.Deep.QuietTactic
import Derived.BigQuiet
import Derived.WideLaws
import Derived.Deep.DeepCutAuto
import Derived.Deep.CutBlock
import Derived.Deep.RegionHeld3
import Derived.Laws.Rows
import Derived.Lib.AppendStr
import Derived.ArgAppend
import Derived.Laws.IdiomCopy
import Derived.OrdersHeld
import Derived.Laws.BitsLemmas
import Derived.RowKit
import Derived.Test.YtlpgpggaagfdnaaDoorWWords
import Derived.Test.YtlpgpggaagfdnaaDoorWLast
import Derived.Test.YtlpgpggaagfdnaaDoorWTab
import Derived.Test.YtlpgpggaagfdnaaDoorWFour
import Derived.Test.YtlpgpggaagfdnaaDoorWQPut
import Derived.Test.YtlpgpggaagfdnaaDoorWApart
import Derived.Test.YtlpgpggaagfdnaaDoorWArr
import Derived.Test.YtlpgpggaagfdnaaDoorWZeros
import Derived.Test.YtlpgpggaagfdnaaDoorWFoot
import Derived.Test.YtlpgpggaagfdnaaDoorWKept
import Derived.Test.YtlpgpggaagfdnaaDoorWShare
import Derived.Test.YtlpgpggaagfdnaaDoorWN
import Derived.Test.YtlpgpggaagfdnaaDoorWFootNe
import Derived.Test.YtlpgpggaagfdnaaDoorWAt
import Derived.Test.YtlpgpggaagfdnaaDoorWEqStruct
import Derived.Test.YtlpgpggaagfdnaaDoorWRepsOne
import Derived.Test.YtlpgpggaagfdnaaDoorWInv
import Derived.Test.YtlpgpggaagfdnaaDoorWInvWords
import Derived.Test.YtlpgpggaagfdnaaDoorWGuard
import Derived.Test.YtlpgpggaagfdnaaDoorWNEv
import Derived.Test.YtlpgpggaagfdnaaDoorWMore
import Derived.ChangeKeysEq
namespace Go.Proofs.YtlpgpggaagfdnaaDoor.Q
open Go.RowKit Go.Proofs.YtlpgpggaagfdnaaDoorW.PrintWords Go.Proofs.YtlpgpggaagfdnaaDoorW.PrintLast Go.Proofs.YtlpgpggaagfdnaaDoorW.PrintMore
attribute [local go_sem] max2_int min2_int max_two min_two max_three min_three max_four min_four
set_option linter.unusedVariables false
set_option linter.unusedSimpArgs false
def zstep (s : Int) : Int := if Go.bits .and .u32 s 1 = 0 then s / 2 else Go.bits .xor .u32 (s / 2) 2197175160
def zsteps : Nat → Int → Int
  | 0, s => s
  | n + 1, s => zsteps n (zstep s)
def zrow : List Int := (List.range 32).map fun i => zsteps 8 (2 ^ i % 4294967296)
set_option maxHeartbeats 8000000 in
set_option maxRecDepth 100000 in
theorem crc_zeroByte_calls (w : World) :
    Calls Tryd.prog 26 #[] w fun e w' => e = .returned (.agg (zrow.map (Value.int .u32)).toArray) ∧ Below w.heap.size w w' := by
  have hu := Tryd.underlying53
  go_enter Tryd.func26, Tryd.ntmps26
  go_wp2
  go_loopw [4] (fun v4 wr => ∃ (k : Nat), v4 = .int .i64 k ∧ k ≤ 32 ∧ Aside0 (Below w.heap.size w wr ∧ wr.heap[w.heap.size]? = some (.cells ((List.replicate 32 (0 : Int)).map (Value.int .u32)).toArray 53 (0, 0)) ∧ wr.heap[w.heap.size + 1]? = some (.cells ((zrow.take k ++ List.replicate (32 - k) 0).map (Value.int .u32)).toArray 53 (0, 0)))) (fun v _ => 32 - (intOf v).toNat)
  case atStart => exact ⟨0, rfl, by omega, ⟨⟨below_alloc (below_alloc (Below.refl _ _) _) _, (by rw [← sq_start]; exact alloc_top1 _ _ _), by rw [List.take_zero, List.nil_append, Nat.sub_zero, ← sq_start]; exact alloc_top2 _ _ _⟩⟩⟩
  case round =>
    obtain ⟨k, rfl, hk, HW⟩ := hrel
    have hbel := HW.out.1
    have hcells := HW.out.2.2
    have hsz := HW.out.2.1
    by_cases hk2 : k < 32
    · have HZ := Aside0.mk hsz
      have p1 : ((k : Int) < 32) = True := eq_true (by omega)
      have p2 : ((0 : Int) ≤ (k : Int)) = True := eq_true (by omega)
      have hM : zrow[k]? = some (zsteps 8 (2 ^ k % 4294967296)) := by
        unfold zrow
        rw [List.getElem?_map, List.getElem?_range hk2]
        rfl
      obtain ⟨old, hold⟩ : ∃ old, wr.cell? ⟨w.heap.size + 1, k, none⟩ = some old := by
        rw [blk_cell hcells k]
        exact ⟨_, Array.getElem?_eq_getElem (by simp [zrow]; omega)⟩
      have hfz : wr.frozen? ⟨w.heap.size + 1, k, none⟩ = false := frozen_of_row _ _ _ _ _ hcells
      have hset := blk_set hcells k (.int .u32 (zsteps 8 (2 ^ k % 4294967296)))
      rw [row_set _ k 32 _ (by omega) hM] at hset
      have HS := Aside0.mk hset
      have HB := Aside0.mk hbel
      clear hcells hsz hbel hM hset HW
      go_wp2
      go_loop [3, 9] (fun v3 v9 => ∃ (j n : Nat) (t : Int), j + n = 8 ∧ v3 = .int .u32 t ∧ v9 = .int .i64 j ∧ Aside0 (zsteps n t = zsteps 8 (2 ^ k % 4294967296))) (fun _ v => 8 - (intOf v).toNat)
      case atStart => exact ⟨0, 8, _, rfl, rfl, rfl, ⟨rfl⟩⟩
      case round =>
        obtain ⟨j, n, t, hjn, rfl, rfl, HT⟩ := hrel
        by_cases hj : j < 8
        · have z1 : ((j : Int) < 8) = True := eq_true (by omega)
          obtain ⟨n, rfl⟩ : ∃ m, n = m + 1 := ⟨n - 1, by omega⟩
          obtain ⟨x, hx⟩ : ∃ x, Go.bits .and .u32 t 1 = x := ⟨_, rfl⟩
          have HT2 := HT.out
          simp only [zsteps, zstep, hx] at HT2
          by_cases hb : x = 0
          · have b1 : (x == 0) = true := by simpa using hb
            have b2 : (x != 0) = false := by simpa using hb
            rw [if_pos hb] at HT2
            have HT3 := Aside0.mk HT2
            clear HT HT2 hb
            go_wp2
            go_round
            case rel => exact ⟨j + 1, n, t / 2, by omega, rfl, by go_num, HT3⟩
            case measure => simp [intOf]; omega
          · have b1 : (x == 0) = false := by simpa using hb
            have b2 : (x != 0) = true := by simpa using hb
            rw [if_neg hb] at HT2
            have HT3 := Aside0.mk HT2
            clear HT HT2 hb
            go_wp2
            go_round
            case rel => exact ⟨j + 1, n, _, by omega, rfl, by go_num, HT3⟩
            case measure => simp [intOf]; omega
        · have z1 : ((j : Int) < 8) = False := eq_false (by omega)
          obtain rfl : n = 0 := by omega
          have HT2 := HT.out
          simp only [zsteps] at HT2
          subst HT2
          clear HT
          go_wp2
          refine ⟨⟨k + 1, by go_num, by omega, ⟨⟨Below.setCell HB.out (Nat.le_succ _) _, (Below.heap_setCell _ ⟨w.heap.size + 1, k, none⟩ _ _ (by show w.heap.size ≠ w.heap.size + 1; omega)).trans HZ.out, HS.out⟩⟩⟩, ?_⟩
          simp [intOf]
          omega
    · have p1 : ((k : Int) < 32) = False := eq_false (by omega)
      obtain rfl : k = 32 := by omega
      have hcells2 : wr.heap[w.heap.size + 1]? = some (.cells (zrow.map (Value.int .u32)).toArray 53 (0, 0)) := by
        rw [hcells, List.take_of_length_le (by simp [zrow])]; simp
      clear hcells
      obtain ⟨M, hMd⟩ : ∃ M, M = zrow.map (Value.int .u32) := ⟨_, rfl⟩
      have hMl : M.length = 32 := by rw [hMd, List.length_map]; rfl
      have hM1 : ∀ v ∈ M, v.oneCell' = true := by
        rw [hMd]
        intro v hv
        obtain ⟨x, _, rfl⟩ := List.mem_map.1 hv
        rfl
      rw [← hMd] at hcells2
      have HR := Aside0.mk hMd
      clear hMd
      have hi32 : (Tryd.prog.info? 53).map (·.size) = some M.toArray.size := by
        rw [List.size_toArray, hMl]
        kernel_rfl
      have hthere : wr.there w.heap.size 0 M.toArray.size := fun i hi => by
        rw [List.size_toArray, hMl] at hi
        rw [Nat.zero_add]
        exact ⟨by rw [blk_cell hsz i, Array.getElem?_eq_getElem (by simp; omega)]; rfl, frozen_of_row _ _ _ _ _ hsz⟩
      obtain ⟨cur', hcur, hcs, hcl⟩ := setCells_row M 0 wr _ hsz (by simp; omega)
      have hfar := setCells_far (g := w.heap.size) M 0 (w := wr)
      obtain ⟨s1, s2, s3, s4⟩ := setCells_same w.heap.size M 0 wr
      obtain ⟨w3, hw3⟩ : ∃ w3, w3 = wr.setCells w.heap.size 0 M := ⟨_, rfl⟩
      rw [← hw3] at hcur hfar s1 s2 s3 s4
      have hcur' : cur' = M.toArray := by
        apply Array.toList_inj.1
        rw [hcl, List.drop_of_length_le (by simp; omega)]
        simp
      subst hcur'
      have hend : Aside0 (Below w.heap.size w w3) := ⟨⟨s1.trans hbel.os, s2.trans hbel.tape, s3.trans hbel.output, by rw [s4]; exact hbel.size, fun k hk => (hfar k (by omega)).trans (hbel.block k hk)⟩⟩
      have HC := Aside0.mk hcur
      have HS3 := Aside0.mk hw3
      clear hcur hfar s1 s2 s3 s4 hw3 hcs hcl hbel hsz HW p1
      go_wp2_with (first | (refine wpList_load_row rfl 53 (.tmp 1) rfl (w.heap.size + 1) rfl 53 _ (0, 0) _ hcells2 hu rfl hi32 ?_) | (refine wpList_store_mid rfl 53 (.tmp 0) (.tmp 24) rfl w.heap.size 0 M.toArray rfl rfl hthere hi32 (all_oneCell_toArray hM1) ?_; rw [show wr.setCells w.heap.size 0 M.toArray.toList = w3 from HS3.out.symm]))
      refine bodyPost_ret (v := .agg M.toArray) ?_ rfl ⟨by rw [HR.out], hend.out⟩
      exact results_cell_row rfl _ _ w.heap.size 53 M.toArray (0, 0) _ rfl HC.out hu rfl hi32

end Go.Proofs.YtlpgpggaagfdnaaDoor.Q
