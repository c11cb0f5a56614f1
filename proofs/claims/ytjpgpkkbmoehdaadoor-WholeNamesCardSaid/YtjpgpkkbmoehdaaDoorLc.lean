/- The names' functions in the machine: what the library's answer, and Topic, Dir, UnDir, File, UnFile of the program. -/
import Derived.Test.YtjpgpkkbmoehdaaDoorLa
import Derived.Test.YtjpgpkkbmoehdaaDoorLb
import Derived.Shelf.Strconv.Itoa3
import Derived.Shelf.Strconv.Itoa4
import Derived.Shelf.Strconv.ParseIntPublic10
import Derived.Shelf.Strings.LastIndex
import Derived.Shelf.Strings.Repeat
import Derived.Shelf.Small.Wraps
import Derived.Lib.OthersKept
import Derived.Lib.Hide
import Derived.Laws.RangeString
import Derived.WalkKit
import Derived.BigCall
import Derived.BigGuard
namespace Go.Proofs.YtjpgpkkbmoehdaaDoor.Ra.Nm
open Go Go.Shelf Go.RowKit
set_option linter.unusedVariables false
set_option linter.unusedSimpArgs false
/-- The table of tens stands at its variable. -/
def Tens (w : World) : Prop := Lib.TabIs Tryd.prog w "internal/strconv.uint64pow10" .u64 Lib.pow10Tab
theorem gTens : Tryd.prog.globalNamed "internal/strconv.uint64pow10" = some 2 := by kernel_rfl
theorem Tens.up {w w' : World} (h : Tens w) (hb : Below w.heap.size w w') : Tens w' := by
  unfold Tens Lib.TabIs World.var? at *
  rw [gTens] at *
  simp only [Option.bind_some] at *
  have e : w'.heap[(2 : Nat)]? = w.heap[(2 : Nat)]? := by
    by_cases hlt : (2 : Nat) < w.heap.size
    · exact hb.block _ hlt
    · rw [Array.getElem?_eq_none (by omega)] at h
      simp at h
  rw [e]
  exact h
theorem below_grow (w : World) (k : Nat) (os : Array Obj) : Below w.heap.size w (Go.Sort.grow (w.drewN k) os) := by
  refine ⟨rfl, rfl, rfl, ?_, fun g hg => ?_⟩
  · show w.heap.size ≤ ((w.drewN k).heap ++ os).size
    rw [Array.size_append]
    exact Nat.le_add_right _ _
  · show ((w.drewN k).heap ++ os)[g]? = _
    rw [Array.getElem?_append_left (by exact hg)]
    rfl
theorem itoa_calls (p : Nat) (hp : p ≤ 9223372036854775807) (w : World) (ht : Tens w) : Calls Tryd.prog 13 #[.int .i64 p] w fun e w' => e = .returned (.string ⟨(Lib.decDigits p).toArray⟩) ∧ Below w.heap.size w w' := by
  refine (Any.strconv_Itoa layItoa (p : Int) (by omega) (by omega) w ht).mono ?_
  rintro e w' ⟨rfl, k, os, rfl⟩
  rw [itoa_nat]
  exact ⟨rfl, below_grow _ _ _⟩
theorem fmt_calls (p : Nat) (hp : p ≤ 9223372036854775807) (w : World) (ht : Tens w) : Calls Tryd.prog 14 #[.int .i64 p, .int .i64 10] w fun e w' => e = .returned (.string ⟨(Lib.decDigits p).toArray⟩) ∧ Below w.heap.size w w' := by
  refine (Any.strconv_FormatInt_10 layFmt (p : Int) (by omega) (by omega) w ht).mono ?_
  rintro e w' ⟨rfl, k, os, rfl⟩
  rw [itoa_nat]
  exact ⟨rfl, below_grow _ _ _⟩
theorem parse32_calls (s : ByteArray) (hs : s.size ≤ 1000) (v : Int) (h : Lib.parseIntB 32 s.data.toList = .ok v) (w : World) : Calls Tryd.prog 19 #[.string s, .int .i64 10, .int .i64 32] w fun e w' => e = .returned (.tuple #[.int .i64 v, .nilIface]) ∧ Below w.heap.size w w' := by
  refine (Any.strconv_ParseInt_10_at32_ok layParse s (by omega) v h w).mono ?_
  rintro e w' ⟨rfl, rfl | ⟨t, rfl⟩⟩
  · exact ⟨rfl, Below.refl _ _⟩
  · exact ⟨rfl, Lib.bytesWorld_below _ _ _⟩
theorem parse64_calls (s : ByteArray) (hs : s.size ≤ 1000) (v : Int) (h : Lib.parseIntB 64 s.data.toList = .ok v) (w : World) : Calls Tryd.prog 19 #[.string s, .int .i64 10, .int .i64 64] w fun e w' => e = .returned (.tuple #[.int .i64 v, .nilIface]) ∧ Below w.heap.size w w' := by
  refine (Any.strconv_ParseInt_10_at64_ok layParse s (by omega) v h w).mono ?_
  rintro e w' ⟨rfl, rfl | ⟨t, rfl⟩⟩
  · exact ⟨rfl, Below.refl _ _⟩
  · exact ⟨rfl, Lib.bytesWorld_below _ _ _⟩
theorem last_calls (s : ByteArray) (hs : s.size ≤ 1000) (w : World) : Calls Tryd.prog 18 #[.string s, .int .u8 45] w fun e w' => e = .returned (.int .i64 (Lib.lastIndexByte s 45)) ∧ w' = w :=
  Any.strings_LastIndexByte layLast s 45 (by omega) w
theorem layBuild : Builder.Extra Tryd.prog layRep_ren := {
  sizeBuilder := by kernel_rfl
  liesBuilder := by kernel_rfl
  t5 := Tryd.underlying5
  a5 := Tryd.isAgg5
  z5 := Tryd.sizeOf5
  v5 := Tryd.zeroValue5
  infoByte := by kernel_rfl
  cellsByte := by kernel_rfl
  sizeByte := by kernel_rfl
  neB5 := by decide }
theorem rep_calls (k : Nat) (hk : k ≤ 20) (w : World) : Calls Tryd.prog 15 #[.string ⟨#[48]⟩, .int .i64 k] w fun e w' => e = .returned (.string ⟨(List.replicate k 48).toArray⟩) ∧ Below w.heap.size w w' := by
  have h1 : (⟨#[48]⟩ : ByteArray).size = 1 := rfl
  refine (Any.strings_Repeat layRep layBuild ⟨#[48]⟩ k w (by omega) (by rw [h1]; omega)).mono ?_
  rintro e w' ⟨rfl, hb⟩
  have e2 : (⟨#[48]⟩ : ByteArray).data.toList = [48] := rfl
  rw [e2, rep48]
  exact ⟨rfl, hb⟩
theorem cut_calls (s : ByteArray) (hs : s.size ≤ 1000) (w : World) : Calls Tryd.prog 20 #[.string s, .string ⟨#[46, 108, 111, 103]⟩] w fun e w' => e = .returned (.tuple #[.string ⟨(Lib.trimSuffix s.data.toList [46, 108, 111, 103]).toArray⟩, .bool (Lib.hasSuffix s.data.toList [46, 108, 111, 103])]) ∧ w' = w :=
  Any.strings_CutSuffix layCut s ⟨#[46, 108, 111, 103]⟩ w (by omega)
end Go.Proofs.YtjpgpkkbmoehdaaDoor.Ra.Nm
