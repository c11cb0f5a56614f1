-- Written by a program of this workplace's own (wip/rows/mkrow.py). Not trusted: Lean checks it.
import Derived.Test.YtlpgpggaagfdnaaDoorRows
import Derived.Test.YtlpgpggaagfdnaaDoorOp
import Derived.Test.YtlpgpggaagfdnaaDoorQx6
import Derived.Test.YtlpgpggaagfdnaaDoorPureCrcShifts
import Derived.Test.YtlpgpggaagfdnaaDoorCards
import Derived.Test.YtlpgpggaagfdnaaDoorTie
import Derived.WalkKit
import Derived.ProofKit
import Derived.OpenShut
import Derived.ShutString
import Derived.ChangeOld
import Derived.Below
import Derived.JoinedCond
import Derived.Deep.DeepHandedRow
import Derived.Lib.LaidTab
namespace Go.Proofs.YtlpgpggaagfdnaaDoor.crcShifts
open Go.ChangeShapes Go.WideShapes Go.ChangeAt Go.RowKit Go.Proofs.YtlpgpggaagfdnaaDoor.Op Go.Proofs.YtlpgpggaagfdnaaDoorW.PrintWords
open Go.ChangeMaps (open_string shut_string)
set_option linter.unusedVariables false
set_option linter.unusedSimpArgs false
theorem own : ownKnob Tryd.prog.godebug = none := by kernel_rfl
theorem laidOut : laidOutB Tryd.prog = true := by kernel_rfl
theorem gTab : Tryd.prog.globalNamed "leat/crc.rows" = some 0 := by kernel_rfl
set_option maxRecDepth 100000 in
set_option maxHeartbeats 2000000 in
theorem contract (H : Type) (enc : TypeId × Value → H) (W : World) (base : Nat) (args : Array Value) (ds gs : List (DataW H)) (before : List MemPlace)
    (hval : ∀ (j : Nat) t v, Tryd.f9.params[j]? = some t → args[j]? = some v → Value.okWide Tryd.prog W .any base t v)
    (hW : DataW.Whole enc Tryd.prog Tryd.f9.params.toList Rows.crcShiftsSpec.vars false W args.toList ds gs before) (hL : laidMetH Tryd.prog Rows.crcShiftsRow.laid W) :
    Calls Tryd.prog 9 args W fun e W' => ∃ v, e = .returned v ∧ Rows.crcShiftsSpec.post enc Tryd.prog Tryd.f9 false true false false W args v W' := by
  have hW' := hW
  obtain ⟨p, q, hA0, hV, rfl, hfz, hnd⟩ := hW
  have hA : DataW.TrodAll enc Tryd.prog W 0 (fun _ => true) true Tryd.f9.params.toList args.toList ds p := hA0
  rw [Tryd.params9] at hA hval
  obtain ⟨v0, vs0, d0, ds0, p0, q0, hargs, rfl, rfl, h0, r0⟩ := trodAll_cons hA
  obtain ⟨v1, vs1, d1, ds1, p1, q1, rfl, rfl, rfl, h1, r1⟩ := trodAll_cons r0
  obtain ⟨v2, vs2, d2, ds2, p2, q2, rfl, rfl, rfl, h2, r2⟩ := trodAll_cons r1
  obtain ⟨rfl, rfl, rfl⟩ := trodAll_nil r2
  obtain rfl : args = #[v0, v1, v2] := by cases args; simp_all
  obtain ⟨rfl, rfl⟩ := trodVars_none hV
  obtain ⟨a0, rfl, rfl, rfl, good0⟩ := open_int Tryd.underlying23 (hval 0 23 v0 rfl rfl) h0
  obtain ⟨a1, rfl, rfl, rfl, good1⟩ := open_int Tryd.underlying23 (hval 1 23 v1 rfl rfl) h1
  obtain ⟨a2, rfl, rfl, rfl, good2⟩ := open_int Tryd.underlying3 (hval 2 3 v2 rfl rfl) h2
  clear hA0
  have big0 : Rows.uptoBulk (DataW.lit (H := H) (.int .u32 a0)) = 1 := rfl
  have big1 : Rows.uptoBulk (DataW.lit (H := H) (.int .u32 a1)) = 1 := rfl
  have big2 : Rows.uptoBulk (DataW.lit (H := H) (.int .i64 a2)) = 1 := rfl
  obtain ⟨k, h⟩ := CrcShifts.pure a0 good0 a1 good1 a2 good2
  have hT : Lib.TabIs Tryd.prog W "leat/crc.rows" .u32 Go.Proofs.YtlpgpggaagfdnaaDoor.Q.crcRows := Lib.tabIs_of_head (rest := []) gTab (by kernel_rfl) Tryd.underlying50 Tryd.underlying23 (by kernel_rfl) (by kernel_rfl) hL
  have hG : Kd.C (Kd.int .u32) W (some ⟨0, 0, none⟩) 16 Go.Proofs.YtlpgpggaagfdnaaDoor.Q.crcRows := ⟨rfl, by decide, fun _ => ⟨_, rfl, fun j p hj => ⟨[.int .u32 p], rfl, rfl, fun i u hu => by
    obtain ⟨hj1, hj2⟩ := List.getElem?_eq_some_iff.1 hj
    obtain ⟨rfl, rfl⟩ : i = 0 ∧ u = .int .u32 p := by cases i with | zero => simpa using hu.symm | succ i => simp at hu
    have hc := hT.cell gTab j hj1
    rw [List.getD_eq_getElem?_getD, hj] at hc
    have e : (⟨0, 0, none⟩ : Addr).add (j * (Kd.int .u32).sz + 0) = ⟨0, j, none⟩ := by rw [show j * (Kd.int .u32).sz + 0 = j from by show j * 1 + 0 = j; omega]; exact add_plain 0 j
    rw [e]
    exact hc⟩⟩⟩
  refine (Go.Proofs.YtlpgpggaagfdnaaDoor.Q.leatlaw03_CrcShifts.calls k a0 a1 a2 true W hG h).mono fun e W' ⟨he, bel0⟩ => ?_
  have bel : Below W.heap.size W W' := bel0
  subst he
  exact ⟨_, rfl, _, _, _, [], _, [], hW', trodAll_mk1 (shut_bool Tryd.underlying4 _), (trodAll_cons_mk (shut_int Tryd.underlying23 good0) (trodAll_cons_mk (shut_int Tryd.underlying23 good1) (trodAll_cons_mk (shut_int Tryd.underlying3 good2) trodAll_mk0))), rfl, bel.frame _, fun h => by cases h⟩
noncomputable def laidWorld (os : Os) : World :=
  { World.holding Tryd.prog os ⟨#[], #[], []⟩ with heap := (World.holding Tryd.prog os ⟨#[], #[], []⟩).heap.modify 0 fun
      | .cells _ t frozen => .cells (Go.Proofs.YtlpgpggaagfdnaaDoor.Q.crcRows.map fun z => Value.int .u32 z).toArray t frozen
      | o => o }
theorem laid_met (os : Os) : laidMet Tryd.prog Rows.crcShiftsRow.laid ((laidWorld os).forCall (fun _ _ => 0) ⟨#[], #[.int .u32 0, .int .u32 0, .int .i64 0], []⟩).memory :=
  laidMet_of_run' 8 (by kernel_rfl) (by kernel_rfl)
theorem reads (os : Os) {H : Type} (enc : TypeId × Value → H) : ∃ places, DataW.whole enc Tryd.prog ((laidWorld os).forCall (fun _ _ => 0) ⟨#[], #[.int .u32 0, .int .u32 0, .int .i64 0], []⟩).memory Tryd.f9.params.toList Rows.crcShiftsSpec.vars false (#[.int .u32 0, .int .u32 0, .int .i64 0] : Array Value).toList 8 = some ([.lit (.int .u32 0), .lit (.int .u32 0), .lit (.int .i64 0)], [], places) :=
  ⟨[], by kernel_rfl⟩
set_option maxRecDepth 100000 in
theorem lifted (os : Os) (started : os.Started) (H : Type) (enc : TypeId × Value → H) (F : Stop.Interp) :
    ReturnsInHanded {} Tryd.checked os 9 .any ((OpenSpec.ofChange Rows.crcShiftsSpec).preRow enc Tryd.prog Tryd.f9 Rows.crcShiftsRow.domain false Rows.crcShiftsRow.laid) (((OpenSpec.ofChange Rows.crcShiftsSpec).at F).post enc Tryd.prog Tryd.f9 false true false false) := by
  obtain ⟨places, hx⟩ := reads os enc
  refine returnsInHanded_of_row (C := Tryd.checked) (s := OpenSpec.ofChange Rows.crcShiftsSpec) own started (by kernel_rfl) Tryd.func9
    (witness_row_at (enc := enc) (C := Tryd.checked) false (laidWorld os) #[.int .u32 0, .int .u32 0, .int .i64 0] rfl (by kernel_rfl) (by kernel_rfl) (by kernel_rfl)
      (OpenSpec.preRow_of_cond 8 hx (by kernel_rfl) (fun k hk => by cases hk) (by kernel_rfl) (laid_met os))) ?_
  intro W base args ds gs before hval hW _ hcond _ hL _ _
  exact contract H enc W base args ds gs before hval hW hL
theorem said : Rows.CrcShiftsSaid :=
  OpenClaim.holds_of_cond 9 Tryd.f9 rfl rfl rfl rfl rfl rfl rfl ⟨rfl, rfl, rfl, rfl, rfl⟩ rfl rfl rfl rfl rfl (by kernel_rfl) Tryd.func9 (by kernel_rfl)
    (of_decide_eq_true (by kernel_rfl)) (by unfold Func.isWrapper; first | (rw [if_pos (by decide +kernel)]; kernel_rfl) | (rw [if_neg (by decide +kernel)]; exact ⟨rfl, rfl⟩))
    (fun os started H enc _ F => by rw [OpenClaim.pre_eq_preRow]; exact lifted os started H enc F)
theorem plain (f : FuncId) (fn : Func) (hf : Tryd.pinned.checked.prog.funcNamed "leat/leatlaw03.CrcShifts" = some f) (hfn : Tryd.pinned.checked.prog.funcs[f]? = some fn) :
    false = Tryd.pinned.checked.prog.looks [] ∧ ∀ (j : Nat) t, fn.params[j]? = some t → Tryd.pinned.checked.prog.wantsStandIn t = false := by
  obtain rfl : f = 9 := Option.some.inj ((show Tryd.prog.funcNamed "leat/leatlaw03.CrcShifts" = some 9 by kernel_rfl).symm.trans hf) |>.symm
  obtain rfl : fn = Tryd.f9 := (Option.some.inj (Tryd.func9.symm.trans hfn)).symm
  refine ⟨by kernel_rfl, fun j t ht => ?_⟩
  rw [Tryd.params9] at ht
  have hm : t ∈ [23, 23, 3] := by simpa using Array.mem_of_getElem? ht
  have hall : ([23, 23, 3].all fun u => !Tryd.prog.wantsStandIn u) = true := by kernel_rfl
  exact (show Tryd.prog.wantsStandIn t = false by simpa using List.all_eq_true.1 hall t hm)
theorem card : Rows.CrcShiftsCardSaid :=
  Claim7.holds_tied_plain_at .later [] _ _ _ _ said (fun _ h => by cases h) (by kernel_rfl) (fun _ h => by cases h) crcShifts_row_tie rfl ⟨rfl, rfl⟩ (by kernel_rfl) rfl plain (by kernel_rfl)
#print axioms card
end Go.Proofs.YtlpgpggaagfdnaaDoor.crcShifts
namespace Go.Proofs.YtlpgpggaagfdnaaDoor
theorem crcShifts_holds : Rows.CrcShiftsCardSaid := crcShifts.card
end Go.Proofs.YtlpgpggaagfdnaaDoor
