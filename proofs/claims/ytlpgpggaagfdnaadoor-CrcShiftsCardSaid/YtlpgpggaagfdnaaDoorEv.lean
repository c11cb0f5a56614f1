/- Small tools for what holds from some number of rounds on; bits of whole numbers. -/
import Derived.Test.YtlpgpggaagfdnaaDoorQx0
namespace Go.Proofs.YtlpgpggaagfdnaaDoor.Ev
open Go.RowKit Go.Proofs.YtlpgpggaagfdnaaDoorW.PrintWords

theorem succ {α : Type} {g : Nat → Option α} {r : α} (h : Ev (fun k => g (k + 1)) r) : Ev g r := by
  obtain ⟨K, h⟩ := h
  refine ⟨K + 1, fun n hn => ?_⟩
  obtain ⟨m, rfl⟩ : ∃ m, n = m + 1 := ⟨n - 1, by omega⟩
  exact h m (by omega)
theorem pos {α : Type} {c : Prop} [Decidable c] {a b : Nat → Option α} {r : α} (hc : c) (h : Ev a r) : Ev (fun k => if c then a k else b k) r := by
  simpa only [if_pos hc] using h
theorem neg {α : Type} {c : Prop} [Decidable c] {a b : Nat → Option α} {r : α} (hc : ¬ c) (h : Ev b r) : Ev (fun k => if c then a k else b k) r := by
  simpa only [if_neg hc] using h
theorem bindS {α β : Type} {a : α} {f : Nat → α → Option β} {r : β} (h : Ev (fun k => f k a) r) : Ev (fun k => (some a).bind (f k)) r := by
  simpa only [Option.bind_some] using h
theorem const {α : Type} {x : Option α} {r : α} (h : x = some r) : Ev (fun _ => x) r := ⟨0, fun _ _ => h⟩

theorem wf_i64 {x : Int} (h : (Lit.int .i64 x).wf = true) : -9223372036854775808 ≤ x ∧ x ≤ 9223372036854775807 := by
  simp [Lit.wf, IntKind.min, IntKind.max, IntKind.bits, IntKind.signed] at h
  omega
theorem wf_u64 {x : Int} (h : (Lit.int .u64 x).wf = true) : 0 ≤ x ∧ x ≤ 18446744073709551615 := by
  simp [Lit.wf, IntKind.min, IntKind.max, IntKind.bits, IntKind.signed] at h
  omega
theorem wf_u8 {x : Int} (h : (Lit.int .u8 x).wf = true) : 0 ≤ x ∧ x ≤ 255 := by
  simp [Lit.wf, IntKind.min, IntKind.max, IntKind.bits, IntKind.signed] at h
  omega

theorem w64 {x : Int} (h0 : -9223372036854775808 ≤ x) (h1 : x ≤ 9223372036854775807) : wrap64 x = x := by unfold wrap64; omega

/- bits -/
theorem ofInt_nat {w : Nat} {x : Int} {a : Nat} (hx : x % ((2 ^ w : Nat) : Int) = a) : (BitVec.ofInt w x).toNat = a := by
  rw [BitVec.toNat_ofInt, hx, Int.toNat_natCast]
theorem xor_of {k : IntKind} {x y : Int} (a b : Nat) (hx : x % ((2 ^ k.bits : Nat) : Int) = a) (hy : y % ((2 ^ k.bits : Nat) : Int) = b) : Go.bits .xor k x y = k.wrap ((a ^^^ b : Nat) : Int) := by
  simp only [Go.bits, BitVec.toNat_xor, ofInt_nat hx, ofInt_nat hy]
theorem and_of {k : IntKind} {x y : Int} (a b : Nat) (hx : x % ((2 ^ k.bits : Nat) : Int) = a) (hy : y % ((2 ^ k.bits : Nat) : Int) = b) : Go.bits .and k x y = k.wrap ((a &&& b : Nat) : Int) := by
  simp only [Go.bits, BitVec.toNat_and, ofInt_nat hx, ofInt_nat hy]
theorem or_of {k : IntKind} {x y : Int} (a b : Nat) (hx : x % ((2 ^ k.bits : Nat) : Int) = a) (hy : y % ((2 ^ k.bits : Nat) : Int) = b) : Go.bits .or k x y = k.wrap ((a ||| b : Nat) : Int) := by
  simp only [Go.bits, BitVec.toNat_or, ofInt_nat hx, ofInt_nat hy]
theorem p64 : ((2 ^ IntKind.u64.bits : Nat) : Int) = 18446744073709551616 := rfl
theorem p64i : ((2 ^ IntKind.i64.bits : Nat) : Int) = 18446744073709551616 := rfl
theorem wrap_u64_nat {n : Nat} (h : n < 18446744073709551616) : IntKind.u64.wrap (n : Int) = n := by rw [IntKind.wrap_u64]; omega
theorem xor_u64_zero {x : Int} (h0 : 0 ≤ x) (h1 : x ≤ 18446744073709551615) : Go.bits .xor .u64 x 0 = x := by
  obtain ⟨n, rfl⟩ := Int.eq_ofNat_of_zero_le h0
  rw [xor_of (k := .u64) (x := (n : Int)) (y := 0) n 0 (by rw [p64]; omega) (by rw [p64]; omega), Nat.xor_zero, wrap_u64_nat (by omega)]
theorem ones_xor (m n : Nat) (h : n < 2 ^ m) : n ^^^ (2 ^ m - 1) = 2 ^ m - 1 - n := by
  apply Nat.eq_of_testBit_eq
  intro i
  rw [Nat.testBit_xor, Nat.testBit_two_pow_sub_one, Nat.sub_sub, Nat.add_comm 1 n, Nat.testBit_two_pow_sub_succ h]
  by_cases hi : i < m
  · simp [hi]
  · simp [hi]
    exact Nat.testBit_lt_two_pow (Nat.lt_of_lt_of_le h (Nat.pow_le_pow_right (by decide) (by omega)))
theorem xor_u64_ones {x : Int} (h0 : 0 ≤ x) (h1 : x ≤ 18446744073709551615) : Go.bits .xor .u64 x 18446744073709551615 = 18446744073709551615 - x := by
  obtain ⟨n, rfl⟩ := Int.eq_ofNat_of_zero_le h0
  have e := ones_xor 64 n (by omega)
  rw [xor_of (k := .u64) (x := (n : Int)) (y := 18446744073709551615) n (2 ^ 64 - 1) (by rw [p64]; omega) (by rw [p64]; omega), e, wrap_u64_nat (by omega)]
  omega
theorem xor_i64_zero {x : Int} (h0 : -9223372036854775808 ≤ x) (h1 : x ≤ 9223372036854775807) : Go.bits .xor .i64 x 0 = x := by
  obtain ⟨n, hn⟩ := Int.eq_ofNat_of_zero_le (show 0 ≤ x % 18446744073709551616 by omega)
  rw [xor_of (k := .i64) (x := x) (y := 0) n 0 (by rw [p64i]; exact hn) (by rw [p64i]; omega), Nat.xor_zero, IntKind.wrap_i64]
  omega
theorem xor_i64_ones {x : Int} (h0 : 0 ≤ x) (h1 : x ≤ 9223372036854775807) : Go.bits .xor .i64 x (-1) = -1 - x := by
  obtain ⟨n, rfl⟩ := Int.eq_ofNat_of_zero_le h0
  have e := ones_xor 64 n (by omega)
  rw [xor_of (k := .i64) (x := (n : Int)) (y := -1) n (2 ^ 64 - 1) (by rw [p64i]; omega) (by rw [p64i]; omega), e, IntKind.wrap_i64]
  omega
theorem and_u64_one {x : Int} (h0 : 0 ≤ x) (h1 : x ≤ 18446744073709551615) : Go.bits .and .u64 x 1 = x % 2 := by
  obtain ⟨n, rfl⟩ := Int.eq_ofNat_of_zero_le h0
  rw [and_of (k := .u64) (x := (n : Int)) (y := 1) n 1 (by rw [p64]; omega) (by rw [p64]; omega), Nat.and_one_is_mod, IntKind.wrap_u64]
  omega
theorem and_u8_127 {x : Int} (h0 : 0 ≤ x) (h1 : x ≤ 255) : Go.bits .and .u8 x 127 = x % 128 := by
  have := Go.bits_mask .u8 8 (by decide) Go.wraps_u8 7 (by decide) x h0 (by omega)
  simpa using this
theorem or_u8_128 {x : Int} (h0 : 0 ≤ x) (h1 : x ≤ 255) : Go.bits .or .u8 x 128 = x % 128 + 128 := by
  obtain ⟨n, rfl⟩ := Int.eq_ofNat_of_zero_le h0
  have : ∀ m : Fin 256, Go.bits .or .u8 (m.val : Int) 128 = (m.val : Int) % 128 + 128 := by decide +kernel
  exact this ⟨n, by omega⟩
theorem or_u64_high {x y : Int} (i : Nat) (hi : i ≤ 64) (hx0 : 0 ≤ x) (hx : x < 2 ^ i) (hy0 : 0 ≤ y) (hy : y % 2 ^ i = 0) (hy1 : y ≤ 18446744073709551615) : Go.bits .or .u64 x y = x + y := by
  obtain ⟨m, rfl⟩ := Int.eq_ofNat_of_zero_le hx0
  obtain ⟨n, rfl⟩ := Int.eq_ofNat_of_zero_le hy0
  have hm : m < 2 ^ i := by exact_mod_cast hx
  have hn : n % 2 ^ i = 0 := by exact_mod_cast hy
  have hp : (2 : Nat) ^ i ≤ 2 ^ 64 := Nat.pow_le_pow_right (by decide) hi
  have e : m ||| n = n + m := by
    have hq : n = 2 ^ i * (n / 2 ^ i) := by
      have := Nat.div_add_mod n (2 ^ i)
      omega
    rw [Nat.or_comm, hq, ← Nat.two_pow_add_eq_or_of_lt hm]
  have hs : n + m < 2 ^ 64 := by
    rw [← e]
    exact Nat.or_lt_two_pow (by omega) (by omega)
  rw [or_of (k := .u64) (x := (m : Int)) (y := (n : Int)) m n (by rw [p64]; omega) (by rw [p64]; omega), e, IntKind.wrap_u64]
  omega
end Go.Proofs.YtlpgpggaagfdnaaDoor.Ev
