/- Contracts of functions that were walked by hand. -/
import Derived.Test.YtlpgpggaagfdnaaDoorProg
import Derived.Below
import Derived.Deep.Draws
import Derived.Deep.AppendLies
import Derived.Maps.AppendAt
import Derived.OwnWalk
import Derived.Laws.BytesArg
import Derived.Laws.MakeOwn
import Derived.Laws.OwnMore
import Derived.Deep.OwnRows
import Derived.Tactics
import Derived.Lib.ConvBytes
import Derived.Laws.Slices
import Derived.WalkKit
import Derived.KernelRfl
import Derived.RowKit3
import Derived.Deep.LoopGhost
import Derived.Deep.QuietTactic
import Derived.BigQuiet
import Derived.WideLaws
import Derived.Deep.DeepCutAuto
import Derived.Deep.CutBlock
import Derived.Deep.RegionHeld3
import Derived.Laws.Rows
import Derived.Lib.AppendStr
import Derived.ArgAppend
import Derived.Laws.IdiomCopy
import Derived.OrdersHeld
import Derived.Laws.BitsLemmas
import Derived.RowKit
import Derived.Test.YtlpgpggaagfdnaaDoorWWords
import Derived.Test.YtlpgpggaagfdnaaDoorWLast
import Derived.Test.YtlpgpggaagfdnaaDoorWTab
import Derived.Test.YtlpgpggaagfdnaaDoorWFour
import Derived.Test.YtlpgpggaagfdnaaDoorWQPut
import Derived.Test.YtlpgpggaagfdnaaDoorWApart
import Derived.Test.YtlpgpggaagfdnaaDoorWArr
import Derived.Test.YtlpgpggaagfdnaaDoorWZeros
import Derived.Test.YtlpgpggaagfdnaaDoorWFoot
import Derived.Test.YtlpgpggaagfdnaaDoorWKept
import Derived.Test.YtlpgpggaagfdnaaDoorWShare
import Derived.Test.YtlpgpggaagfdnaaDoorWN
import Derived.Test.YtlpgpggaagfdnaaDoorWFootNe
import Derived.Test.YtlpgpggaagfdnaaDoorWAt
import Derived.Test.YtlpgpggaagfdnaaDoorWEqStruct
import Derived.Test.YtlpgpggaagfdnaaDoorWRepsOne
import Derived.Test.YtlpgpggaagfdnaaDoorWInv
import Derived.Test.YtlpgpggaagfdnaaDoorWInvWords
import Derived.Test.YtlpgpggaagfdnaaDoorWGuard
import Derived.Test.YtlpgpggaagfdnaaDoorWNEv
import Derived.Test.YtlpgpggaagfdnaaDoorWMore
import Derived.ChangeKeysEq
namespace Go.Proofs.YtlpgpggaagfdnaaDoor.Q
open Go.RowKit Go.Proofs.YtlpgpggaagfdnaaDoorW.PrintWords Go.Proofs.YtlpgpggaagfdnaaDoorW.PrintLast Go.Proofs.YtlpgpggaagfdnaaDoorW.PrintMore
attribute [local go_sem] max2_int min2_int max_two min_two max_three min_three max_four min_four
set_option linter.unusedVariables false
set_option linter.unusedSimpArgs false
theorem eqItem_step {P : Program} {d : Nat} {e : TypeId} {c : Nat} {xs ys : Array Value} {i : Nat} {is : List Nat} {a b : Value} {r s : Bool} {w : World} (ha : (part e xs (i * c)).run P w = .ok a w) (hb : (part e ys (i * c)).run P w = .ok b w) (he : (Op.equalIn d e a b).run P w = .ok r w) (hr : (Op.eqItems d e c xs ys is).run P w = .ok s w) : (Op.eqItems d e c xs ys (i :: is)).run P w = .ok (r && s) w := by
  simp only [Op.eqItems, Sem.run_bind, ha, hb, he, Result.andThen_ok]
  cases r
  · simp
  · simpa using hr
theorem eqItem_last {P : Program} {d : Nat} {e : TypeId} {c : Nat} {xs ys : Array Value} {i : Nat} {a b : Value} {r : Bool} {w : World} (ha : (part e xs (i * c)).run P w = .ok a w) (hb : (part e ys (i * c)).run P w = .ok b w) (he : (Op.equalIn d e a b).run P w = .ok r w) : (Op.eqItems d e c xs ys [i]).run P w = .ok r w := by
  have h := eqItem_step (is := []) (s := true) ha hb he (by simp [Op.eqItems])
  rwa [Bool.and_true] at h
/-- The table. -/
def crcRows : List Int := [0, 274646895, 549293790, 820201905, 1098587580, 1361435347, 1640403810, 1905808397, 2197175160, 2460548119, 2722870694, 2987750089, 3280807620, 3553878443, 3811616794, 4084100981]
/-- Half a byte put in. -/
def crcNib (s : Int) : Int := Go.bits .xor .u32 (s / 16) (rd crcRows (Go.bits .and .u32 s 15))
def crcByte (s x : Int) : Int := crcNib (crcNib (Go.bits .xor .u32 s (x % 4294967296)))
def crc_Update.f (a0 : Int) (l1 : List Int) : Option Int := some (Go.bits .xor .u32 IntKind.u32.max (l1.foldl crcByte (Go.bits .xor .u32 IntKind.u32.max a0)))
theorem and15 (s : Int) : 0 ≤ Go.bits .and .u32 s 15 ∧ Go.bits .and .u32 s 15 < 16 := by
  have h : (BitVec.ofInt 32 s &&& BitVec.ofInt 32 15).toNat < 16 := by
    rw [BitVec.toNat_and, show (BitVec.ofInt 32 15).toNat = 15 from rfl]
    exact Nat.lt_of_le_of_lt Nat.and_le_right (by decide)
  have e : Go.bits .and .u32 s 15 = IntKind.u32.wrap ((BitVec.ofInt 32 s &&& BitVec.ofInt 32 15).toNat : Int) := rfl
  rw [e, IntKind.wrap_u32]
  omega
theorem crc_foldl_snoc (l : List Int) (i : Nat) (h : i < l.length) (s : Int) : (l.take (i + 1)).foldl crcByte s = crcByte ((l.take i).foldl crcByte s) (rd l i) := by
  rw [List.take_succ_eq_append_getElem h, List.foldl_append]
  simp [rd, List.getD_eq_getElem?_getD, h]
set_option maxHeartbeats 8000000 in
set_option maxRecDepth 100000 in
theorem crc_Update.calls (a0 : Int) (A1 : Option Addr) (c1 : Nat) (l1 : List Int) (r : Int) (w : World) (hG : Kd.C (Kd.int .u32) w (some ⟨0, 0, none⟩) 16 crcRows) (hr1 : Kd.C (Kd.int .u8) w A1 l1.length l1) (hc1 : l1.length ≤ c1) (h : crc_Update.f a0 l1 = some r) :
    Calls Tryd.prog 12 #[.int .u32 a0, .slice A1 l1.length c1] w fun e w' => e = .returned (.int .u32 r) ∧ Drawn0 w w' := by
  have HR := Aside0.mk hr1
  have HG := Aside0.mk hG
  have hm := hr1.2.1
  obtain rfl := Option.some.inj h
  clear hr1 hG h
  go_enter Tryd.func12, Tryd.ntmps12
  go_wp2
  obtain ⟨s0, hs0⟩ : ∃ s, s = Go.bits .xor .u32 IntKind.u32.max a0 := ⟨_, rfl⟩
  rw [← hs0]
  have HS0 := Aside0.mk hs0
  clear hs0
  go_loop [5, 12] (fun v5 v12 => ∃ k : Nat, k ≤ l1.length ∧ v12 = .int .i64 k ∧ v5 = .int .u32 ((l1.take k).foldl crcByte s0)) (fun _ v12 => l1.length - (intOf v12).toNat)
  case atStart => exact ⟨0, Nat.zero_le _, rfl, rfl⟩
  case round =>
    obtain ⟨k, hk, rfl, rfl⟩ := hrel
    by_cases hlt : k < l1.length
    · obtain ⟨ad, e, hc⟩ := Kd.at_int HR.out (k : Int) (by omega) (by omega)
      cases e
      rw [Int.toNat_natCast] at hc
      obtain ⟨t, ht⟩ : ∃ t, t = (l1.take k).foldl crcByte s0 := ⟨_, rfl⟩
      rw [← ht]
      have HT := Aside0.mk ht
      clear ht
      obtain ⟨x1, hx1⟩ : ∃ x, Go.bits .xor .u32 t (rd l1 (k : Int) % 4294967296) = x := ⟨_, rfl⟩
      obtain ⟨j1, hj1⟩ : ∃ x, Go.bits .and .u32 x1 15 = x := ⟨_, rfl⟩
      obtain ⟨x2, hx2⟩ : ∃ x, Go.bits .xor .u32 (x1 / 16) (rd crcRows j1) = x := ⟨_, rfl⟩
      obtain ⟨j2, hj2⟩ : ∃ x, Go.bits .and .u32 x2 15 = x := ⟨_, rfl⟩
      have b1 := and15 x1
      have b2 := and15 x2
      rw [hj1] at b1
      rw [hj2] at b2
      have e2 : crcByte t (rd l1 (k : Int)) = Go.bits .xor .u32 (x2 / 16) (rd crcRows j2) := by
        unfold crcByte crcNib
        rw [hx1, hj1, hx2, hj2]
      have E2 := Aside0.mk e2
      obtain ⟨d1, f1, hc1'⟩ := Kd.at_int HG.out j1 b1.1 b1.2
      cases f1
      obtain ⟨d2, f2, hc2'⟩ := Kd.at_int HG.out j2 b2.1 b2.2
      cases f2
      rw [add_plain] at hc1' hc2'
      have p1 := eq_true b1.1
      have q1 := eq_true b1.2
      have p2 := eq_true b2.1
      have q2 := eq_true b2.2
      have pj1 : (j1.toNat < 16) = True := eq_true (by omega)
      have pj2 : (j2.toNat < 16) = True := eq_true (by omega)
      clear b1 b2 e2
      go_wp2
      go_round
      case rel => exact ⟨k + 1, by omega, by go_num, by rw [crc_foldl_snoc l1 k hlt, ← HT.out, E2.out]⟩
      case measure => simp [intOf]; omega
    · go_wp2
      go_ret
      have hkl : k = l1.length := by omega
      exact ⟨by rw [hkl, List.take_length, HS0.out]; rfl, Drawn0.refl _⟩

def crc_Row.f (a0 : Int) : Option (Int × Int) := if a0 < 0 ∨ 15 < a0 then some (0, 3) else some (rd crcRows a0, 0)
set_option maxHeartbeats 8000000 in
set_option maxRecDepth 100000 in
theorem crc_Row.calls (a0 : Int) (r1 : Int) (r2 : Int) (w : World) (hG : Kd.C (Kd.int .u32) w (some ⟨0, 0, none⟩) 16 crcRows) (h : crc_Row.f a0 = some (r1, r2)) :
    Calls Tryd.prog 20 #[.int .i64 a0] w fun e w' => e = .returned (.tuple #[.int .u32 r1, .int .i64 r2]) ∧ Drawn0 w w' := by
  have HG := Aside0.mk hG
  clear hG
  unfold crc_Row.f at h
  by_cases c1 : a0 < 0
  · rw [if_pos (.inl c1)] at h
    simp only [Option.some.injEq, Prod.mk.injEq] at h
    obtain ⟨rfl, rfl⟩ := h
    have c2 : decide (a0 < 0) = true := decide_eq_true c1
    clear c1
    go_enter Tryd.func20, Tryd.ntmps20
    go_wp2
    go_ret2
    exact ⟨by first | rfl | simp, by repeat (first | exact Drawn0.refl _ | apply Drawn0.step)⟩
  · by_cases c2 : 15 < a0
    · rw [if_pos (.inr c2)] at h
      simp only [Option.some.injEq, Prod.mk.injEq] at h
      obtain ⟨rfl, rfl⟩ := h
      have d1 : decide (a0 < 0) = false := decide_eq_false c1
      have d2 : decide (15 < a0) = true := decide_eq_true c2
      clear c1 c2
      go_enter Tryd.func20, Tryd.ntmps20
      go_wp2
      go_ret2
      exact ⟨by first | rfl | simp, by repeat (first | exact Drawn0.refl _ | apply Drawn0.step)⟩
    · rw [if_neg (by omega)] at h
      simp only [Option.some.injEq, Prod.mk.injEq] at h
      obtain ⟨rfl, rfl⟩ := h
      obtain ⟨d1, f1, hc1'⟩ := Kd.at_int HG.out a0 (by omega) (by omega)
      cases f1
      rw [add_plain] at hc1'
      have p1 := eq_true (show 0 ≤ a0 by omega)
      have q1 := eq_true (show a0 < 16 by omega)
      have e1 : decide (a0 < 0) = false := decide_eq_false c1
      have e2 : decide (15 < a0) = false := decide_eq_false c2
      clear c1 c2
      go_enter Tryd.func20, Tryd.ntmps20
      go_wp2
      go_ret2
      exact ⟨by first | rfl | simp, by repeat (first | exact Drawn0.refl _ | apply Drawn0.step)⟩

end Go.Proofs.YtlpgpggaagfdnaaDoor.Q
