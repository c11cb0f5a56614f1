/- Contracts of functions that were walked by hand. -/
import Derived.Test.YtlpgpggaagfdnaaDoorProg
import Derived.Below
import Derived.Deep.Draws
import Derived.Deep.AppendLies
import Derived.Maps.AppendAt
import Derived.OwnWalk
import Derived.Laws.BytesArg
import Derived.Laws.MakeOwn
import Derived.Laws.OwnMore
import Derived.Deep.OwnRows
import Derived.Tactics
import Derived.Lib.ConvBytes
import Derived.Laws.Slices
import Derived.WalkKit
import Derived.KernelRfl
import Derived.RowKit3
import Derived.Deep.LoopGhost
import Derived.Deep.QuietTactic
import Derived.BigQuiet
import Derived.WideLaws
import Derived.Deep.DeepCutAuto
import Derived.Deep.CutBlock
import Derived.Deep.RegionHeld3
import Derived.Laws.Rows
import Derived.Lib.AppendStr
import Derived.ArgAppend
import Derived.Laws.IdiomCopy
import Derived.OrdersHeld
import Derived.Laws.BitsLemmas
import Derived.RowKit
import Derived.Test.YtlpgpggaagfdnaaDoorWWords
import Derived.Test.YtlpgpggaagfdnaaDoorWLast
import Derived.Test.YtlpgpggaagfdnaaDoorWTab
import Derived.Test.YtlpgpggaagfdnaaDoorWFour
import Derived.Test.YtlpgpggaagfdnaaDoorWQPut
import Derived.Test.YtlpgpggaagfdnaaDoorWApart
import Derived.Test.YtlpgpggaagfdnaaDoorWArr
import Derived.Test.YtlpgpggaagfdnaaDoorWZeros
import Derived.Test.YtlpgpggaagfdnaaDoorWFoot
import Derived.Test.YtlpgpggaagfdnaaDoorWKept
import Derived.Test.YtlpgpggaagfdnaaDoorWShare
import Derived.Test.YtlpgpggaagfdnaaDoorWN
import Derived.Test.YtlpgpggaagfdnaaDoorWFootNe
import Derived.Test.YtlpgpggaagfdnaaDoorWAt
import Derived.Test.YtlpgpggaagfdnaaDoorWEqStruct
import Derived.Test.YtlpgpggaagfdnaaDoorWRepsOne
import Derived.Test.YtlpgpggaagfdnaaDoorWInv
import Derived.Test.YtlpgpggaagfdnaaDoorWInvWords
import Derived.Test.YtlpgpggaagfdnaaDoorWGuard
import Derived.Test.YtlpgpggaagfdnaaDoorWNEv
import Derived.Test.YtlpgpggaagfdnaaDoorWMore
import Derived.ChangeKeysEq
namespace Go.Proofs.YtlpgpggaagfdnaaDoor.Q
open Go.RowKit Go.Proofs.YtlpgpggaagfdnaaDoorW.PrintWords Go.Proofs.YtlpgpggaagfdnaaDoorW.PrintLast Go.Proofs.YtlpgpggaagfdnaaDoorW.PrintMore
attribute [local go_sem] max2_int min2_int max_two min_two max_three min_three max_four min_four
set_option linter.unusedVariables false
set_option linter.unusedSimpArgs false
/-- What becomes of a register by a matrix: so many bits still to be looked at, from place i on. -/
def mOfL (ms : List Int) : Nat → Int → Int → Int → Int
  | 0, _, _, out => out
  | n + 1, s, i, out => if s = 0 then out else mOfL ms n (s / 2) (i + 1) (if Go.bits .and .u32 s 1 = 0 then out else Go.bits .xor .u32 out (rd ms i))
def mOf (ms : List Int) (s : Int) : Int := mOfL ms 32 s 0 0
theorem mOfL_zero (ms : List Int) (n : Nat) (i out : Int) : mOfL ms n 0 i out = out := by cases n <;> simp [mOfL]
set_option maxHeartbeats 8000000 in
set_option maxRecDepth 100000 in
theorem crc_of_calls (g : Nat) (ms : List Int) (s : Int) (w : World) (hm : Kd.C (Kd.int .u32) w (some ⟨g, 0, none⟩) 32 ms) (hs0 : 0 ≤ s) (hs1 : s < 4294967296) :
    Calls Tryd.prog 27 #[.pointer (some ⟨g, 0, none⟩), .int .u32 s] w fun e w' => e = .returned (.int .u32 (mOf ms s)) ∧ w = w' := by
  have HM := Aside0.mk hm
  clear hm
  have hu := Tryd.underlying53
  go_enter Tryd.func27, Tryd.ntmps27
  go_wp2
  go_loop [1, 5, 6] (fun v1 v5 v6 => ∃ (k n : Nat) (t out : Int), k + n = 32 ∧ 0 ≤ t ∧ t < 2 ^ n ∧ v1 = .int .u32 t ∧ v5 = .int .u32 out ∧ v6 = .int .i64 k ∧ Aside0 (mOfL ms n t k out = mOf ms s)) (fun _ _ v6 => 32 - (intOf v6).toNat)
  case atStart => exact ⟨0, 32, s, 0, rfl, hs0, by omega, rfl, rfl, rfl, ⟨rfl⟩⟩
  case round =>
    obtain ⟨k, n, t, out, hkn, ht0, ht1, rfl, rfl, rfl, HE⟩ := hrel
    by_cases hz : t = 0
    · subst hz
      have he := HE.out
      rw [mOfL_zero] at he
      subst he
      go_wp2
      go_ret
      exact ⟨rfl, rfl⟩
    · have hn : n ≠ 0 := by rintro rfl; simp at ht1; omega
      obtain ⟨n, rfl⟩ : ∃ m, n = m + 1 := ⟨n - 1, by omega⟩
      have hk : k < 32 := by omega
      have z1 : (t == 0) = false := by simpa using hz
      have z2 : (t != 0) = true := by simpa using hz
      obtain ⟨d1, f1, hc1⟩ := Kd.at_int HM.out (k : Int) (by omega) (by omega)
      cases f1
      rw [add_plain, Int.toNat_natCast] at hc1
      have p1 : ((0 : Int) ≤ (k : Int)) = True := eq_true (by omega)
      have q1 : ((k : Int) < 32) = True := eq_true (by omega)
      have HE' := HE.out
      simp only [mOfL, if_neg hz] at HE'
      have HX := Aside0.mk HE'
      have ht2 : 0 ≤ t / 2 ∧ t / 2 < 2 ^ n := by
        rw [Int.pow_succ] at ht1
        omega
      clear HE' ht1
      obtain ⟨x, hx⟩ : ∃ x, Go.bits .and .u32 t 1 = x := ⟨_, rfl⟩
      by_cases hb : x = 0
      · have b1 : (x == 0) = true := by simpa using hb
        have b2 : (x != 0) = false := by simpa using hb
        have HX2 := HX.out
        rw [hx, if_pos hb] at HX2
        have HX3 := Aside0.mk HX2
        clear HX2 HX HE hz hb
        go_wp2
        go_round
        case rel => exact ⟨k + 1, n, t / 2, out, by omega, ht2.1, ht2.2, rfl, rfl, by go_num, ⟨by have := HX3.out; rwa [show ((k + 1 : Nat) : Int) = (k : Int) + 1 by omega]⟩⟩
        case measure => simp [intOf]; omega
      · have b1 : (x == 0) = false := by simpa using hb
        have b2 : (x != 0) = true := by simpa using hb
        have HX2 := HX.out
        rw [hx, if_neg hb] at HX2
        have HX3 := Aside0.mk HX2
        clear HX2 HX HE hz hb
        go_wp2
        go_round
        case rel => exact ⟨k + 1, n, t / 2, _, by omega, ht2.1, ht2.2, rfl, rfl, by go_num, ⟨by have := HX3.out; rwa [show ((k + 1 : Nat) : Int) = (k : Int) + 1 by omega]⟩⟩
        case measure => simp [intOf]; omega

end Go.Proofs.YtlpgpggaagfdnaaDoor.Q
