-- Written by a program of this workplace's own (wip/rows/mkrow.py). Not trusted: Lean checks it.
import Derived.Test.YtlindddionbpkaaRows
import Derived.Test.YtlindddionbpkaaRr
import Derived.Test.YtlindddionbpkaaIn
import Derived.WalkKit
import Derived.ProofKit
import Derived.OpenShut
import Derived.ShutString
import Derived.ChangeOld
import Derived.Below
import Derived.JoinedCond
namespace Go.Proofs.Ytlindddionbpkaa.inboxPlaysUpto
open Go.ChangeShapes Go.WideShapes Go.ChangeAt Go.RowKit Go.Proofs.Ytlindddionbpkaa.Ra
open Go.ChangeMaps (open_string shut_string)
set_option linter.unusedVariables false
set_option linter.unusedSimpArgs false
theorem own : ownKnob Try.prog.godebug = none := by kernel_rfl
theorem laidOut : laidOutB Try.prog = true := by kernel_rfl
set_option maxRecDepth 100000 in
set_option maxHeartbeats 2000000 in
theorem contract (H : Type) (enc : TypeId × Value → H) (W : World) (base : Nat) (args : Array Value) (ds gs : List (DataW H)) (before : List MemPlace)
    (hval : ∀ (j : Nat) t v, Try.f5.params[j]? = some t → args[j]? = some v → Value.okWide Try.prog W .any base t v)
    (hW : DataW.Whole enc Try.prog Try.f5.params.toList Rows.inboxPlaysSpec.vars false W args.toList ds gs before) (hk : Rows.uptoSmall H (ds ++ gs) = true) :
    Calls Try.prog 5 args W fun e W' => ∃ v, e = .returned v ∧ Rows.inboxPlaysSpec.post enc Try.prog Try.f5 false true false false W args v W' := by
  have hW' := hW
  obtain ⟨p, q, hA0, hV, rfl, hfz, hnd⟩ := hW
  have hA : DataW.TrodAll enc Try.prog W 0 (fun _ => true) true Try.f5.params.toList args.toList ds p := hA0
  rw [Try.params5] at hA hval
  obtain ⟨v0, vs0, d0, ds0, p0, q0, hargs, rfl, rfl, h0, r0⟩ := trodAll_cons hA
  obtain ⟨v1, vs1, d1, ds1, p1, q1, rfl, rfl, rfl, h1, r1⟩ := trodAll_cons r0
  obtain ⟨rfl, rfl, rfl⟩ := trodAll_nil r1
  obtain rfl : args = #[v0, v1] := by cases args; simp_all
  obtain ⟨rfl, rfl⟩ := trodVars_none hV
  obtain ⟨a0, rfl, rfl, rfl, good0⟩ := open_int Try.underlying3 (hval 0 3 v0 rfl rfl) h0
  obtain ⟨A1, len1, cap1, rfl⟩ := okWide_slice Try.underlying39 (hval 1 39 v1 rfl rfl)
  have k1 := h1
  have lt1 : ∀ x ∈ p1, x.block < W.heap.size := by obtain ⟨m, hm⟩ := k1; exact DataW.trod_lt m _ _ _ hm
  obtain ⟨l1, ⟨x1, e1, hr1⟩, good1, big1⟩ := (OpenA.slice Try.underlying39 (by kernel_rfl) (by decide) (OpenA.struct Try.underlying44 (by kernel_rfl) (OpenF.cons rfl (OpenA.int (k := .i64) Try.underlying3 (by kernel_rfl)) (OpenF.last rfl (OpenA.slice Try.underlying22 (by kernel_rfl) (by decide) (OpenA.slice Try.underlying27 (by kernel_rfl) (by decide) (OpenA.int (k := .u8) Try.underlying5 (by kernel_rfl)))))))).Trod h1
  obtain rfl : x1 = absC W (.slice A1 len1 cap1) := by simpa [Value.cells] using e1.symm
  clear hA0
  have hbulk : Rows.uptoBulkAll _ ≤ 1048576 := of_decide_eq_true hk
  simp only [List.append_nil, List.cons_append, List.nil_append, Rows.uptoBulkAll] at hbulk
  have big0 : Rows.uptoBulk (DataW.lit (H := H) (.int .i64 a0)) = 1 := rfl
  have hglob : Try.prog.globals.size ≤ W.heap.size := by rw [show Try.prog.globals.size = 0 from by kernel_rfl]; exact Nat.zero_le _
  obtain ⟨k, r, st', h, hr⟩ := InboxPlays_small (absSt_wf W) a0 good0 hr1 good1 (by simp only at *; omega)
  subst hr
  refine (run_true Try.prog W hglob (xs := ([.int .i64 a0, .slice A1 len1 cap1] : List Value).map (absC W)) (vs := [.int .i64 a0, .slice A1 len1 cap1]) (crs W _) h).mono fun e W' ⟨he, bel⟩ => ?_
  subst he
  exact ⟨_, rfl, _, _, _, [], _, [], hW', trodAll_mk1 (shut_bool Try.underlying4 _), (trodAll_cons_mk (shut_int Try.underlying3 good0) (trodAll_cons_mk (Below.trod laidOut (by kernel_rfl) (of_decide_eq_true (by kernel_rfl)) k1 bel lt1) trodAll_mk0)), rfl, bel.frame _, fun h => by cases h⟩
set_option maxRecDepth 100000 in
theorem lifted (os : Os) (started : os.Started) (H : Type) (enc : TypeId × Value → H) (F : Stop.Interp) :
    ReturnsInHanded {} Try.checked os 5 .any ((Rows.OpenSpec.upto Rows.inboxPlaysSpec).pre6 enc Try.prog Try.f5 Rows.inboxPlaysUptoRow.domain false) (((Rows.OpenSpec.upto Rows.inboxPlaysSpec).at F).post enc Try.prog Try.f5 false true false false) := by
  refine returnsInHanded_of_cond (C := Try.checked) (s := Rows.OpenSpec.upto Rows.inboxPlaysSpec) (k := Rows.uptoSmall) rfl own started (by kernel_rfl) Try.func5
    (OpenSpec.witness (enc := enc) (C := Try.checked) (s := Rows.OpenSpec.upto Rows.inboxPlaysSpec) (k := Rows.uptoSmall) rfl false ⟨#[], #[.int .i64 0, .slice none 0 0], []⟩ 8 (by kernel_rfl) (by kernel_rfl) (by kernel_rfl)
      (x := ([.lit (.int .i64 0), .nil], [], [])) (by kernel_rfl) rfl (by kernel_rfl)) ?_
  intro W base args ds gs before hval hW _ hk _
  exact contract H enc W base args ds gs before hval hW hk
theorem proved : Rows.InboxPlaysUptoSaid :=
  OpenClaim.holds_of_cond 5 Try.f5 rfl rfl rfl rfl rfl rfl rfl ⟨rfl, rfl, rfl, rfl, rfl⟩ rfl rfl rfl rfl rfl (by kernel_rfl) Try.func5 (by kernel_rfl)
    (of_decide_eq_true (by kernel_rfl)) (by unfold Func.isWrapper; first | (rw [if_pos (by decide +kernel)]; kernel_rfl) | (rw [if_neg (by decide +kernel)]; exact ⟨rfl, rfl⟩))
    (fun os started H enc _ F => lifted os started H enc F)
#print axioms proved
end Go.Proofs.Ytlindddionbpkaa.inboxPlaysUpto
namespace Go.Proofs.Ytlindddionbpkaa
theorem inboxPlaysUpto_holds : Rows.InboxPlaysUptoSaid := inboxPlaysUpto.proved
end Go.Proofs.Ytlindddionbpkaa
