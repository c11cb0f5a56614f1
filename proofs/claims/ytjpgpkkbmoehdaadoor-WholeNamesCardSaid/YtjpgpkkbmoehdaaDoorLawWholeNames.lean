-- Written by a program of this workplace's own (wip/rows/mkrow.py). Not trusted: Lean checks it.
import Derived.Test.YtjpgpkkbmoehdaaDoorRows
import Derived.Test.YtjpgpkkbmoehdaaDoorRr
import Derived.Test.YtjpgpkkbmoehdaaDoorLh
import Derived.Test.YtjpgpkkbmoehdaaDoorCards
import Derived.Test.YtjpgpkkbmoehdaaDoorTie
import Derived.WalkKit
import Derived.ProofKit
import Derived.OpenShut
import Derived.ShutString
import Derived.ChangeOld
import Derived.Below
import Derived.JoinedCond
import Derived.Deep.DeepHandedRow
import Derived.Lib.LaidTab
import Derived.LaidSub
namespace Go.Proofs.YtjpgpkkbmoehdaaDoor.wholeNames
open Go.ChangeShapes Go.WideShapes Go.ChangeAt Go.RowKit Go.Proofs.YtjpgpkkbmoehdaaDoor.Ra
open Go.ChangeMaps (open_string shut_string)
set_option linter.unusedVariables false
set_option linter.unusedSimpArgs false
theorem own : ownKnob Tryd.prog.godebug = none := by kernel_rfl
theorem laidOut : laidOutB Tryd.prog = true := by kernel_rfl
theorem g5 : Tryd.prog.globalNamed "math/bits.deBruijn32tab" = some 5 := by kernel_rfl
theorem g6 : Tryd.prog.globalNamed "math/bits.deBruijn64tab" = some 6 := by kernel_rfl
theorem g2 : Tryd.prog.globalNamed "internal/strconv.uint64pow10" = some 2 := by kernel_rfl
theorem g4 : Tryd.prog.globalNamed "strconv.ErrRange" = some 4 := by kernel_rfl
theorem g3 : Tryd.prog.globalNamed "strconv.ErrSyntax" = some 3 := by kernel_rfl
theorem g0 : Tryd.prog.globalNamed "leat/crc.rows" = some 0 := by kernel_rfl
theorem var_size {P : Program} {W : World} {name : String} {d : DataW Unit} {g : Nat} (hg : P.globalNamed name = some g) (h : laidMet P [(name, d)] W) : g < W.heap.size := by
  obtain ⟨ps, ⟨g', t', cs, fuel, p, q, hg', ht', hvar, _⟩, _⟩ := h
  unfold World.var? at hvar
  rw [hg] at hvar
  simp only [Option.bind_some] at hvar
  cases hx : W.heap[g]? with
  | none => rw [hx] at hvar; cases hvar
  | some o => exact (Array.getElem?_eq_some_iff.1 hx).1
set_option maxRecDepth 100000 in
set_option maxHeartbeats 2000000 in
theorem contract (H : Type) (enc : TypeId × Value → H) (W : World) (base : Nat) (args : Array Value) (ds gs : List (DataW H)) (before : List MemPlace)
    (hval : ∀ (j : Nat) t v, Tryd.f3.params[j]? = some t → args[j]? = some v → Value.okWide Tryd.prog W .any base t v)
    (hW : DataW.Whole enc Tryd.prog Tryd.f3.params.toList Rows.wholeNamesSpec.vars false W args.toList ds gs before) (hL : laidMetH Tryd.prog Rows.wholeNamesRow.laid W) :
    Calls Tryd.prog 3 args W fun e W' => ∃ v, e = .returned v ∧ Rows.wholeNamesSpec.post enc Tryd.prog Tryd.f3 false true false false W args v W' := by
  have hW' := hW
  obtain ⟨p, q, hA0, hV, rfl, hfz, hnd⟩ := hW
  have hA : DataW.TrodAll enc Tryd.prog W 0 (fun _ => true) true Tryd.f3.params.toList args.toList ds p := hA0
  rw [Tryd.params3] at hA hval
  obtain ⟨v0, vs0, d0, ds0, p0, q0, hargs, rfl, rfl, h0, r0⟩ := trodAll_cons hA
  obtain ⟨v1, vs1, d1, ds1, p1, q1, rfl, rfl, rfl, h1, r1⟩ := trodAll_cons r0
  obtain ⟨v2, vs2, d2, ds2, p2, q2, rfl, rfl, rfl, h2, r2⟩ := trodAll_cons r1
  obtain ⟨v3, vs3, d3, ds3, p3, q3, rfl, rfl, rfl, h3, r3⟩ := trodAll_cons r2
  obtain ⟨v4, vs4, d4, ds4, p4, q4, rfl, rfl, rfl, h4, r4⟩ := trodAll_cons r3
  obtain ⟨v5, vs5, d5, ds5, p5, q5, rfl, rfl, rfl, h5, r5⟩ := trodAll_cons r4
  obtain ⟨rfl, rfl, rfl⟩ := trodAll_nil r5
  obtain rfl : args = #[v0, v1, v2, v3, v4, v5] := by cases args; simp_all
  obtain ⟨rfl, rfl⟩ := trodVars_none hV
  obtain ⟨a0, rfl, rfl, rfl, good0⟩ := open_string Tryd.underlying9 (hval 0 9 v0 rfl rfl) h0
  obtain ⟨a1, rfl, rfl, rfl, good1⟩ := open_int Tryd.underlying21 (hval 1 21 v1 rfl rfl) h1
  obtain ⟨a2, rfl, rfl, rfl, good2⟩ := open_int Tryd.underlying2 (hval 2 2 v2 rfl rfl) h2
  obtain ⟨a3, rfl, rfl, rfl, good3⟩ := open_string Tryd.underlying9 (hval 3 9 v3 rfl rfl) h3
  obtain ⟨a4, rfl, rfl, rfl, good4⟩ := open_int Tryd.underlying21 (hval 4 21 v4 rfl rfl) h4
  obtain ⟨a5, rfl, rfl, rfl, good5⟩ := open_int Tryd.underlying2 (hval 5 2 v5 rfl rfl) h5
  clear hA0
  have big0 : Rows.uptoBulk (DataW.lit (H := H) (.string a0.data.toList)) = a0.size + 1 := by simp only [Rows.uptoBulk]; rw [Array.length_toList]; rfl
  have big1 : Rows.uptoBulk (DataW.lit (H := H) (.int .i32 a1)) = 1 := rfl
  have big2 : Rows.uptoBulk (DataW.lit (H := H) (.int .i64 a2)) = 1 := rfl
  have big3 : Rows.uptoBulk (DataW.lit (H := H) (.string a3.data.toList)) = a3.size + 1 := by simp only [Rows.uptoBulk]; rw [Array.length_toList]; rfl
  have big4 : Rows.uptoBulk (DataW.lit (H := H) (.int .i32 a4)) = 1 := rfl
  have big5 : Rows.uptoBulk (DataW.lit (H := H) (.int .i64 a5)) = 1 := rfl
  have hT0 : Lib.TabIs Tryd.prog W "leat/crc.rows" .u32 Go.Proofs.YtjpgpkkbmoehdaaDoor.Ra.Cm.crcRows := by
    have h1 := laidMet.filter (fun x => x.1 == "leat/crc.rows") (show laidMet Tryd.prog Rows.wholeNamesRow.laid W from hL)
    rw [show Rows.wholeNamesRow.laid.filter (fun x => x.1 == "leat/crc.rows") = [("leat/crc.rows", Lib.tabData .u32 Go.Proofs.YtjpgpkkbmoehdaaDoor.Ra.Cm.crcRows)] from by kernel_rfl] at h1
    exact Lib.tabIs_of_head (rest := []) g0 (by kernel_rfl) Tryd.underlying68 Tryd.underlying26 (by kernel_rfl) (by kernel_rfl) h1
  have hTA := tabA_of (W := W) (fun j hj => hT0.cell g0 j hj)
  have hT2 : Lib.TabIs Tryd.prog W "internal/strconv.uint64pow10" .u64 Lib.pow10Tab := by
    have h1 := laidMet.filter (fun x => x.1 == "internal/strconv.uint64pow10") (show laidMet Tryd.prog Rows.wholeNamesRow.laid W from hL)
    rw [show Rows.wholeNamesRow.laid.filter (fun x => x.1 == "internal/strconv.uint64pow10") = [("internal/strconv.uint64pow10", Lib.tabData .u64 Lib.pow10Tab)] from by kernel_rfl] at h1
    exact Lib.tabIs_of_head (rest := []) g2 (by kernel_rfl) Tryd.underlying90 Tryd.underlying72 (by kernel_rfl) (by kernel_rfl) h1
  have hglob : Tryd.prog.globals.size ≤ W.heap.size := by
    have h1 := laidMet.filter (fun x => x.1 == "math/bits.deBruijn64tab") (show laidMet Tryd.prog Rows.wholeNamesRow.laid W from hL)
    rw [show Rows.wholeNamesRow.laid.filter (fun x => x.1 == "math/bits.deBruijn64tab") = [("math/bits.deBruijn64tab", Rows.laid_math_bits_deBruijn64tab)] from by kernel_rfl] at h1
    have h2 := var_size g6 h1
    rw [show Tryd.prog.globals.size = 7 from by kernel_rfl]
    omega
  obtain ⟨k, r, st', h, hr⟩ := WholeNames_small (absSt_wf W) hTA.1 a0 good0 a1 good1 a2 good2 a3 good3 a4 good4 a5 good5
  subst hr
  refine (run_true Tryd.prog W hglob (xs := ([.string a0, .int .i32 a1, .int .i64 a2, .string a3, .int .i32 a4, .int .i64 a5] : List Value).map (absC W)) (vs := [.string a0, .int .i32 a1, .int .i64 a2, .string a3, .int .i32 a4, .int .i64 a5]) (crs W _) h (hP := ⟨rfl, hT2⟩)).mono fun e W' ⟨he, bel⟩ => ?_
  subst he
  exact ⟨_, rfl, _, _, _, [], _, [], hW', trodAll_mk1 (shut_bool Tryd.underlying4 _), (trodAll_cons_mk (shut_string Tryd.underlying9 good0) (trodAll_cons_mk (shut_int Tryd.underlying21 good1) (trodAll_cons_mk (shut_int Tryd.underlying2 good2) (trodAll_cons_mk (shut_string Tryd.underlying9 good3) (trodAll_cons_mk (shut_int Tryd.underlying21 good4) (trodAll_cons_mk (shut_int Tryd.underlying2 good5) trodAll_mk0)))))), rfl, bel.frame _, fun h => by cases h⟩
noncomputable def low : Nat := (World.holding Tryd.prog default ⟨#[], #[], []⟩).heap.size
noncomputable def laidWorld (os : Os) : World :=
  let w0 := World.holding Tryd.prog os ⟨#[.cells #[.string ⟨#[118, 97, 108, 117, 101, 32, 111, 117, 116, 32, 111, 102, 32, 114, 97, 110, 103, 101]⟩] 106, .cells #[.string ⟨#[105, 110, 118, 97, 108, 105, 100, 32, 115, 121, 110, 116, 97, 120]⟩] 106], #[], []⟩
  { w0 with heap := ((((((w0.heap.modify 5 fun | .cells _ t frozen => .cells (([0, 1, 28, 2, 29, 14, 24, 3, 30, 22, 20, 15, 25, 17, 4, 8, 31, 27, 13, 23, 21, 19, 16, 7, 26, 12, 18, 6, 11, 5, 10, 9] : List Int).map fun z => Value.int .u8 z).toArray t frozen | o => o).modify 6 fun | .cells _ t frozen => .cells (([0, 1, 56, 2, 57, 49, 28, 3, 61, 58, 42, 50, 38, 29, 17, 4, 62, 47, 59, 36, 45, 43, 51, 22, 53, 39, 33, 30, 24, 18, 12, 5, 63, 55, 48, 27, 60, 41, 37, 16, 46, 35, 44, 21, 52, 32, 23, 11, 54, 26, 40, 15, 34, 20, 31, 10, 25, 14, 19, 9, 13, 8, 7, 6] : List Int).map fun z => Value.int .u8 z).toArray t frozen | o => o).modify 2 fun | .cells _ t frozen => .cells (([1, 10, 100, 1000, 10000, 100000, 1000000, 10000000, 100000000, 1000000000, 10000000000, 100000000000, 1000000000000, 10000000000000, 100000000000000, 1000000000000000, 10000000000000000, 100000000000000000, 1000000000000000000, 10000000000000000000] : List Int).map fun z => Value.int .u64 z).toArray t frozen | o => o).modify 4 fun | .cells _ t frozen => .cells #[.iface 104 (.pointer (some ⟨low + 0, 0, none⟩))] t frozen | o => o).modify 3 fun | .cells _ t frozen => .cells #[.iface 104 (.pointer (some ⟨low + 1, 0, none⟩))] t frozen | o => o).modify 0 fun | .cells _ t frozen => .cells (([0, 274646895, 549293790, 820201905, 1098587580, 1361435347, 1640403810, 1905808397, 2197175160, 2460548119, 2722870694, 2987750089, 3280807620, 3553878443, 3811616794, 4084100981] : List Int).map fun z => Value.int .u32 z).toArray t frozen | o => o) }
theorem laid_met (os : Os) : laidMet Tryd.prog Rows.wholeNamesRow.laid ((laidWorld os).forCall (fun _ _ => 0) ⟨#[], #[.string ByteArray.empty, .int .i32 0, .int .i64 0, .string ByteArray.empty, .int .i32 0, .int .i64 0], []⟩).memory :=
  laidMet_of_run' 8 (by kernel_rfl) (by kernel_rfl)
theorem reads (os : Os) {H : Type} (enc : TypeId × Value → H) : ∃ places, DataW.whole enc Tryd.prog ((laidWorld os).forCall (fun _ _ => 0) ⟨#[], #[.string ByteArray.empty, .int .i32 0, .int .i64 0, .string ByteArray.empty, .int .i32 0, .int .i64 0], []⟩).memory Tryd.f3.params.toList Rows.wholeNamesSpec.vars false (#[.string ByteArray.empty, .int .i32 0, .int .i64 0, .string ByteArray.empty, .int .i32 0, .int .i64 0] : Array Value).toList 8 = some ([.lit (.string []), .lit (.int .i32 0), .lit (.int .i64 0), .lit (.string []), .lit (.int .i32 0), .lit (.int .i64 0)], [], places) :=
  ⟨[], by kernel_rfl⟩
set_option maxRecDepth 100000 in
theorem lifted (os : Os) (started : os.Started) (H : Type) (enc : TypeId × Value → H) (F : Stop.Interp) :
    ReturnsInHanded {} Tryd.checked os 3 .any ((OpenSpec.ofChange Rows.wholeNamesSpec).preRow enc Tryd.prog Tryd.f3 Rows.wholeNamesRow.domain false Rows.wholeNamesRow.laid) (((OpenSpec.ofChange Rows.wholeNamesSpec).at F).post enc Tryd.prog Tryd.f3 false true false false) := by
  obtain ⟨places, hx⟩ := reads os enc
  refine returnsInHanded_of_row (C := Tryd.checked) (s := OpenSpec.ofChange Rows.wholeNamesSpec) own started (by kernel_rfl) Tryd.func3
    (witness_row_at (enc := enc) (C := Tryd.checked) false (laidWorld os) #[.string ByteArray.empty, .int .i32 0, .int .i64 0, .string ByteArray.empty, .int .i32 0, .int .i64 0] rfl (by kernel_rfl) (by kernel_rfl) (by kernel_rfl)
      (OpenSpec.preRow_of_cond 8 hx (by kernel_rfl) (fun k hk => by cases hk) (by kernel_rfl) (laid_met os))) ?_
  intro W base args ds gs before hval hW _ hcond _ hL _ _
  exact contract H enc W base args ds gs before hval hW hL
theorem said : Rows.WholeNamesSaid :=
  OpenClaim.holds_of_cond 3 Tryd.f3 rfl rfl rfl rfl rfl rfl rfl ⟨rfl, rfl, rfl, rfl, rfl⟩ rfl rfl rfl rfl rfl (by kernel_rfl) Tryd.func3 (by kernel_rfl)
    (of_decide_eq_true (by kernel_rfl)) (by unfold Func.isWrapper; first | (rw [if_pos (by decide +kernel)]; kernel_rfl) | (rw [if_neg (by decide +kernel)]; exact ⟨rfl, rfl⟩))
    (fun os started H enc _ F => by rw [OpenClaim.pre_eq_preRow]; exact lifted os started H enc F)
theorem plain (f : FuncId) (fn : Func) (hf : Tryd.pinned.checked.prog.funcNamed "leat/leattop.WholeNames" = some f) (hfn : Tryd.pinned.checked.prog.funcs[f]? = some fn) :
    true = Tryd.pinned.checked.prog.looks [] ∧ ∀ (j : Nat) t, fn.params[j]? = some t → Tryd.pinned.checked.prog.wantsStandIn t = false := by
  obtain rfl : f = 3 := Option.some.inj ((show Tryd.prog.funcNamed "leat/leattop.WholeNames" = some 3 by kernel_rfl).symm.trans hf) |>.symm
  obtain rfl : fn = Tryd.f3 := (Option.some.inj (Tryd.func3.symm.trans hfn)).symm
  refine ⟨by kernel_rfl, fun j t ht => ?_⟩
  rw [Tryd.params3] at ht
  have hm : t ∈ [9, 21, 2, 9, 21, 2] := by simpa using Array.mem_of_getElem? ht
  have hall : ([9, 21, 2, 9, 21, 2].all fun u => !Tryd.prog.wantsStandIn u) = true := by kernel_rfl
  exact (show Tryd.prog.wantsStandIn t = false by simpa using List.all_eq_true.1 hall t hm)
theorem card : Rows.WholeNamesCardSaid :=
  Claim7.holds_tied_plain_at .later [] _ _ _ _ said (fun _ h => by cases h) (by kernel_rfl) (fun _ h => by cases h) wholeNames_row_tie rfl ⟨rfl, rfl⟩ (by kernel_rfl) rfl plain (by kernel_rfl)
#print axioms card
end Go.Proofs.YtjpgpkkbmoehdaaDoor.wholeNames
namespace Go.Proofs.YtjpgpkkbmoehdaaDoor
theorem wholeNames_holds : Rows.WholeNamesCardSaid := wholeNames.card
end Go.Proofs.YtjpgpkkbmoehdaaDoor
