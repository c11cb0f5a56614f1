-- Written by a program of this workplace's own (wip/rows/mkrow.py). Not trusted: Lean checks it.
import Derived.Test.YtlpgpggaagfdnaaDoorRows
import Derived.Test.YtlpgpggaagfdnaaDoorOp
import Derived.Test.YtlpgpggaagfdnaaDoorQx4
import Derived.Test.YtlpgpggaagfdnaaDoorPureCrcMixes
import Derived.Test.YtlpgpggaagfdnaaDoorCards
import Derived.Test.YtlpgpggaagfdnaaDoorTie
import Derived.WalkKit
import Derived.ProofKit
import Derived.OpenShut
import Derived.ShutString
import Derived.ChangeOld
import Derived.Below
import Derived.JoinedCond
import Derived.Deep.DeepHandedRow
import Derived.Lib.LaidTab
namespace Go.Proofs.YtlpgpggaagfdnaaDoor.crcMixesUpto
open Go.ChangeShapes Go.WideShapes Go.ChangeAt Go.RowKit Go.Proofs.YtlpgpggaagfdnaaDoor.Op Go.Proofs.YtlpgpggaagfdnaaDoorW.PrintWords
open Go.ChangeMaps (open_string shut_string)
set_option linter.unusedVariables false
set_option linter.unusedSimpArgs false
theorem own : ownKnob Tryd.prog.godebug = none := by kernel_rfl
theorem laidOut : laidOutB Tryd.prog = true := by kernel_rfl
instance : Inhabited Go.Proofs.YtlpgpggaagfdnaaDoor.Q.S37 := ⟨⟨default, default, default⟩⟩
theorem gTab : Tryd.prog.globalNamed "leat/crc.rows" = some 0 := by kernel_rfl
set_option maxRecDepth 100000 in
set_option maxHeartbeats 2000000 in
theorem contract (H : Type) (enc : TypeId × Value → H) (W : World) (base : Nat) (args : Array Value) (ds gs : List (DataW H)) (before : List MemPlace)
    (hval : ∀ (j : Nat) t v, Tryd.f5.params[j]? = some t → args[j]? = some v → Value.okWide Tryd.prog W .any base t v)
    (hW : DataW.Whole enc Tryd.prog Tryd.f5.params.toList Rows.crcMixesSpec.vars false W args.toList ds gs before) (hk : Rows.uptoSmall H (ds ++ gs) = true) (hL : laidMetH Tryd.prog Rows.crcMixesUptoRow.laid W) :
    Calls Tryd.prog 5 args W fun e W' => ∃ v, e = .returned v ∧ Rows.crcMixesSpec.post enc Tryd.prog Tryd.f5 false true false false W args v W' := by
  have hW' := hW
  obtain ⟨p, q, hA0, hV, rfl, hfz, hnd⟩ := hW
  have hA : DataW.TrodAll enc Tryd.prog W 0 (fun _ => true) true Tryd.f5.params.toList args.toList ds p := hA0
  rw [Tryd.params5] at hA hval
  obtain ⟨v0, vs0, d0, ds0, p0, q0, hargs, rfl, rfl, h0, r0⟩ := trodAll_cons hA
  obtain ⟨rfl, rfl, rfl⟩ := trodAll_nil r0
  obtain rfl : args = #[v0] := by cases args; simp_all
  obtain ⟨rfl, rfl⟩ := trodVars_none hV
  obtain ⟨A0, len0, cap0, rfl⟩ := okWide_slice Tryd.underlying36 (hval 0 36 v0 rfl rfl)
  have k0 := h0
  have lt0 : ∀ x ∈ p0, x.block < W.heap.size := by obtain ⟨m, hm⟩ := k0; exact DataW.trod_lt m _ _ _ hm
  obtain ⟨l0, ⟨Ax0, cx0, ex0, hc0, hr0⟩, good0, big0⟩ := (Opens.slice Tryd.underlying36 (by kernel_rfl) (Opens.array3 (mk := Go.Proofs.YtlpgpggaagfdnaaDoor.Q.S37.mk) (pr := fun x => (x.f0, x.f1, x.f2)) (fun _ _ _ => rfl) Tryd.underlying37 Tryd.underlying5 (by kernel_rfl) (by kernel_rfl))).Trod h0
  obtain ⟨rfl, rfl, rfl⟩ : A0 = Ax0 ∧ len0 = l0.length ∧ cap0 = cx0 := by simpa [Value.cells] using ex0
  clear ex0
  clear hA0
  have hbulk : Rows.uptoBulkAll _ ≤ 1048576 := of_decide_eq_true hk
  simp only [List.append_nil, List.cons_append, List.nil_append, Rows.uptoBulkAll] at hbulk
  obtain ⟨k, h⟩ := CrcMixes.pure l0 good0 (by simp only at *; omega)
  have hT : Lib.TabIs Tryd.prog W "leat/crc.rows" .u32 Go.Proofs.YtlpgpggaagfdnaaDoor.Q.crcRows := Lib.tabIs_of_head (rest := []) gTab (by kernel_rfl) Tryd.underlying50 Tryd.underlying23 (by kernel_rfl) (by kernel_rfl) hL
  have hG : Kd.C (Kd.int .u32) W (some ⟨0, 0, none⟩) 16 Go.Proofs.YtlpgpggaagfdnaaDoor.Q.crcRows := ⟨rfl, by decide, fun _ => ⟨_, rfl, fun j p hj => ⟨[.int .u32 p], rfl, rfl, fun i u hu => by
    obtain ⟨hj1, hj2⟩ := List.getElem?_eq_some_iff.1 hj
    obtain ⟨rfl, rfl⟩ : i = 0 ∧ u = .int .u32 p := by cases i with | zero => simpa using hu.symm | succ i => simp at hu
    have hc := hT.cell gTab j hj1
    rw [List.getD_eq_getElem?_getD, hj] at hc
    have e : (⟨0, 0, none⟩ : Addr).add (j * (Kd.int .u32).sz + 0) = ⟨0, j, none⟩ := by rw [show j * (Kd.int .u32).sz + 0 = j from by show j * 1 + 0 = j; omega]; exact add_plain 0 j
    rw [e]
    exact hc⟩⟩⟩
  refine (Go.Proofs.YtlpgpggaagfdnaaDoor.Q.leatlaw03_CrcMixes.calls k _ _ l0 true W hG hr0 hc0 h).mono fun e W' ⟨he, bel0⟩ => ?_
  have bel : Below W.heap.size W W' := bel0
  subst he
  exact ⟨_, rfl, _, _, _, [], _, [], hW', trodAll_mk1 (shut_bool Tryd.underlying4 _), (trodAll_cons_mk (Below.trod laidOut (by kernel_rfl) (of_decide_eq_true (by kernel_rfl)) k0 bel lt0) trodAll_mk0), rfl, bel.frame _, fun h => by cases h⟩
noncomputable def laidWorld (os : Os) : World :=
  { World.holding Tryd.prog os ⟨#[], #[], []⟩ with heap := (World.holding Tryd.prog os ⟨#[], #[], []⟩).heap.modify 0 fun
      | .cells _ t frozen => .cells (Go.Proofs.YtlpgpggaagfdnaaDoor.Q.crcRows.map fun z => Value.int .u32 z).toArray t frozen
      | o => o }
theorem laid_met (os : Os) : laidMet Tryd.prog Rows.crcMixesUptoRow.laid ((laidWorld os).forCall (fun _ _ => 0) ⟨#[], #[.slice none 0 0], []⟩).memory :=
  laidMet_of_run' 8 (by kernel_rfl) (by kernel_rfl)
theorem reads (os : Os) {H : Type} (enc : TypeId × Value → H) : ∃ places, DataW.whole enc Tryd.prog ((laidWorld os).forCall (fun _ _ => 0) ⟨#[], #[.slice none 0 0], []⟩).memory Tryd.f5.params.toList Rows.crcMixesSpec.vars false (#[.slice none 0 0] : Array Value).toList 8 = some ([.nil], [], places) :=
  ⟨[], by kernel_rfl⟩
set_option maxRecDepth 100000 in
theorem lifted (os : Os) (started : os.Started) (H : Type) (enc : TypeId × Value → H) (F : Stop.Interp) :
    ReturnsInHanded {} Tryd.checked os 5 .any ((Rows.OpenSpec.upto Rows.crcMixesSpec).preRow enc Tryd.prog Tryd.f5 Rows.crcMixesUptoRow.domain false Rows.crcMixesUptoRow.laid) (((Rows.OpenSpec.upto Rows.crcMixesSpec).at F).post enc Tryd.prog Tryd.f5 false true false false) := by
  obtain ⟨places, hx⟩ := reads os enc
  refine returnsInHanded_of_row (C := Tryd.checked) (s := Rows.OpenSpec.upto Rows.crcMixesSpec) own started (by kernel_rfl) Tryd.func5
    (witness_row_at (enc := enc) (C := Tryd.checked) false (laidWorld os) #[.slice none 0 0] rfl (by kernel_rfl) (by kernel_rfl) (by kernel_rfl)
      (OpenSpec.preRow_of_cond 8 hx (by kernel_rfl) (fun k hk => by cases hk; kernel_rfl) (by kernel_rfl) (laid_met os))) ?_
  intro W base args ds gs before hval hW _ hcond _ hL _ _
  exact contract H enc W base args ds gs before hval hW (hcond _ rfl) hL
theorem said : Rows.CrcMixesUptoSaid :=
  OpenClaim.holds_of_cond 5 Tryd.f5 rfl rfl rfl rfl rfl rfl rfl ⟨rfl, rfl, rfl, rfl, rfl⟩ rfl rfl rfl rfl rfl (by kernel_rfl) Tryd.func5 (by kernel_rfl)
    (of_decide_eq_true (by kernel_rfl)) (by unfold Func.isWrapper; first | (rw [if_pos (by decide +kernel)]; kernel_rfl) | (rw [if_neg (by decide +kernel)]; exact ⟨rfl, rfl⟩))
    (fun os started H enc _ F => by rw [OpenClaim.pre_eq_preRow]; exact lifted os started H enc F)
theorem plain (f : FuncId) (fn : Func) (hf : Tryd.pinned.checked.prog.funcNamed "leat/leatlaw03.CrcMixes" = some f) (hfn : Tryd.pinned.checked.prog.funcs[f]? = some fn) :
    false = Tryd.pinned.checked.prog.looks [] ∧ ∀ (j : Nat) t, fn.params[j]? = some t → Tryd.pinned.checked.prog.wantsStandIn t = false := by
  obtain rfl : f = 5 := Option.some.inj ((show Tryd.prog.funcNamed "leat/leatlaw03.CrcMixes" = some 5 by kernel_rfl).symm.trans hf) |>.symm
  obtain rfl : fn = Tryd.f5 := (Option.some.inj (Tryd.func5.symm.trans hfn)).symm
  refine ⟨by kernel_rfl, fun j t ht => ?_⟩
  rw [Tryd.params5] at ht
  have hm : t ∈ [36] := by simpa using Array.mem_of_getElem? ht
  have hall : ([36].all fun u => !Tryd.prog.wantsStandIn u) = true := by kernel_rfl
  exact (show Tryd.prog.wantsStandIn t = false by simpa using List.all_eq_true.1 hall t hm)
theorem card : Rows.CrcMixesUptoCardSaid :=
  Claim7.holds_tied_plain_at .later [] _ _ _ _ said (fun _ h => by cases h) (by kernel_rfl) (fun _ h => by cases h) crcMixesUpto_row_tie rfl ⟨rfl, rfl⟩ (by kernel_rfl) rfl plain (by kernel_rfl)
#print axioms card
end Go.Proofs.YtlpgpggaagfdnaaDoor.crcMixesUpto
namespace Go.Proofs.YtlpgpggaagfdnaaDoor
theorem crcMixesUpto_holds : Rows.CrcMixesUptoCardSaid := crcMixesUpto.card
end Go.Proofs.YtlpgpggaagfdnaaDoor
