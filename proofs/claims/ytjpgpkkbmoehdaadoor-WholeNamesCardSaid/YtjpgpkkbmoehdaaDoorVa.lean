/- The folded numbers: plain laws (laid by wip/print/mkva.py from wip/vint). -/
import Derived.Test.YtjpgpkkbmoehdaaDoorRv
namespace Go.Proofs.YtjpgpkkbmoehdaaDoor.Ra.Vn
open Go Go.RowKit
set_option linter.unusedVariables false
set_option linter.unusedSimpArgs false
theorem wrU64 (x : Int) : IntKind.u64.wrap x = x % 18446744073709551616 := by
  simp only [IntKind.wrap, IntKind.bits, IntKind.signed]
  first | rfl | simp | omega
theorem ofInt_nat {w : Nat} {x : Int} {a : Nat} (hx : x % ((2 ^ w : Nat) : Int) = a) : (BitVec.ofInt w x).toNat = a := by
  rw [BitVec.toNat_ofInt, hx, Int.toNat_natCast]
theorem xor_of {k : IntKind} {x y : Int} (a b : Nat) (hx : x % ((2 ^ k.bits : Nat) : Int) = a) (hy : y % ((2 ^ k.bits : Nat) : Int) = b) : Go.bits .xor k x y = k.wrap ((a ^^^ b : Nat) : Int) := by
  simp only [Go.bits, BitVec.toNat_xor, ofInt_nat hx, ofInt_nat hy]
theorem and_of {k : IntKind} {x y : Int} (a b : Nat) (hx : x % ((2 ^ k.bits : Nat) : Int) = a) (hy : y % ((2 ^ k.bits : Nat) : Int) = b) : Go.bits .and k x y = k.wrap ((a &&& b : Nat) : Int) := by
  simp only [Go.bits, BitVec.toNat_and, ofInt_nat hx, ofInt_nat hy]
theorem or_of {k : IntKind} {x y : Int} (a b : Nat) (hx : x % ((2 ^ k.bits : Nat) : Int) = a) (hy : y % ((2 ^ k.bits : Nat) : Int) = b) : Go.bits .or k x y = k.wrap ((a ||| b : Nat) : Int) := by
  simp only [Go.bits, BitVec.toNat_or, ofInt_nat hx, ofInt_nat hy]
theorem p64 : ((2 ^ IntKind.u64.bits : Nat) : Int) = 18446744073709551616 := rfl
theorem p64i : ((2 ^ IntKind.i64.bits : Nat) : Int) = 18446744073709551616 := rfl
theorem wrap_u64_nat {n : Nat} (h : n < 18446744073709551616) : IntKind.u64.wrap (n : Int) = n := by rw [wrU64]; omega
theorem xor_u64_zero {x : Int} (h0 : 0 ≤ x) (h1 : x ≤ 18446744073709551615) : Go.bits .xor .u64 x 0 = x := by
  obtain ⟨n, rfl⟩ := Int.eq_ofNat_of_zero_le h0
  rw [xor_of (k := .u64) (x := (n : Int)) (y := 0) n 0 (by rw [p64]; omega) (by rw [p64]; omega), Nat.xor_zero, wrap_u64_nat (by omega)]
theorem ones_xor (m n : Nat) (h : n < 2 ^ m) : n ^^^ (2 ^ m - 1) = 2 ^ m - 1 - n := by
  apply Nat.eq_of_testBit_eq
  intro i
  rw [Nat.testBit_xor, Nat.testBit_two_pow_sub_one, Nat.sub_sub, Nat.add_comm 1 n, Nat.testBit_two_pow_sub_succ h]
  by_cases hi : i < m
  · simp [hi]
  · simp [hi]
    exact Nat.testBit_lt_two_pow (Nat.lt_of_lt_of_le h (Nat.pow_le_pow_right (by decide) (by omega)))
theorem xor_u64_ones {x : Int} (h0 : 0 ≤ x) (h1 : x ≤ 18446744073709551615) : Go.bits .xor .u64 x 18446744073709551615 = 18446744073709551615 - x := by
  obtain ⟨n, rfl⟩ := Int.eq_ofNat_of_zero_le h0
  have e := ones_xor 64 n (by omega)
  rw [xor_of (k := .u64) (x := (n : Int)) (y := 18446744073709551615) n (2 ^ 64 - 1) (by rw [p64]; omega) (by rw [p64]; omega), e, wrap_u64_nat (by omega)]
  omega
theorem xor_i64_zero {x : Int} (h0 : -9223372036854775808 ≤ x) (h1 : x ≤ 9223372036854775807) : Go.bits .xor .i64 x 0 = x := by
  obtain ⟨n, hn⟩ := Int.eq_ofNat_of_zero_le (show 0 ≤ x % 18446744073709551616 by omega)
  rw [xor_of (k := .i64) (x := x) (y := 0) n 0 (by rw [p64i]; exact hn) (by rw [p64i]; omega), Nat.xor_zero, IntKind.wrap_i64]
  omega
theorem xor_i64_ones {x : Int} (h0 : 0 ≤ x) (h1 : x ≤ 9223372036854775807) : Go.bits .xor .i64 x (-1) = -1 - x := by
  obtain ⟨n, rfl⟩ := Int.eq_ofNat_of_zero_le h0
  have e := ones_xor 64 n (by omega)
  rw [xor_of (k := .i64) (x := (n : Int)) (y := -1) n (2 ^ 64 - 1) (by rw [p64i]; omega) (by rw [p64i]; omega), e, IntKind.wrap_i64]
  omega
theorem and_u64_one {x : Int} (h0 : 0 ≤ x) (h1 : x ≤ 18446744073709551615) : Go.bits .and .u64 x 1 = x % 2 := by
  obtain ⟨n, rfl⟩ := Int.eq_ofNat_of_zero_le h0
  rw [and_of (k := .u64) (x := (n : Int)) (y := 1) n 1 (by rw [p64]; omega) (by rw [p64]; omega), Nat.and_one_is_mod, wrU64]
  omega
theorem and_u8_127 {x : Int} (h0 : 0 ≤ x) (h1 : x ≤ 255) : Go.bits .and .u8 x 127 = x % 128 := by
  have := Go.bits_mask .u8 8 (by decide) Go.wraps_u8 7 (by decide) x h0 (by omega)
  simpa using this
theorem or_u8_128 {x : Int} (h0 : 0 ≤ x) (h1 : x ≤ 255) : Go.bits .or .u8 x 128 = x % 128 + 128 := by
  obtain ⟨n, rfl⟩ := Int.eq_ofNat_of_zero_le h0
  have : ∀ m : Fin 256, Go.bits .or .u8 (m.val : Int) 128 = (m.val : Int) % 128 + 128 := by decide +kernel
  exact this ⟨n, by omega⟩
theorem or_u64_high {x y : Int} (i : Nat) (hi : i ≤ 64) (hx0 : 0 ≤ x) (hx : x < 2 ^ i) (hy0 : 0 ≤ y) (hy : y % 2 ^ i = 0) (hy1 : y ≤ 18446744073709551615) : Go.bits .or .u64 x y = x + y := by
  obtain ⟨m, rfl⟩ := Int.eq_ofNat_of_zero_le hx0
  obtain ⟨n, rfl⟩ := Int.eq_ofNat_of_zero_le hy0
  have hm : m < 2 ^ i := by exact_mod_cast hx
  have hn : n % 2 ^ i = 0 := by exact_mod_cast hy
  have hp : (2 : Nat) ^ i ≤ 2 ^ 64 := Nat.pow_le_pow_right (by decide) hi
  have e : m ||| n = n + m := by
    have hq : n = 2 ^ i * (n / 2 ^ i) := by
      have := Nat.div_add_mod n (2 ^ i)
      omega
    rw [Nat.or_comm, hq, ← Nat.two_pow_add_eq_or_of_lt hm]
  have hs : n + m < 2 ^ 64 := by
    rw [← e]
    exact Nat.or_lt_two_pow (by omega) (by omega)
  rw [or_of (k := .u64) (x := (m : Int)) (y := (n : Int)) m n (by rw [p64]; omega) (by rw [p64]; omega), e, wrU64]
  omega
def zig (v : Int) : Int := if 0 ≤ v then 2 * v else -2 * v - 1
def zag (u : Int) : Int := if u % 2 = 0 then u / 2 else -(u / 2) - 1
theorem zag_zig (v : Int) : zag (zig v) = v := by unfold zag zig; split <;> split <;> omega
theorem zig_zag (u : Int) (h : 0 ≤ u) : zig (zag u) = u := by unfold zag zig; split <;> split <;> omega
theorem zig_range {v : Int} (h0 : -9223372036854775808 ≤ v) (h1 : v ≤ 9223372036854775807) : 0 ≤ zig v ∧ zig v ≤ 18446744073709551615 := by unfold zig; split <;> omega
theorem zag_range {u : Int} (h0 : 0 ≤ u) (h1 : u ≤ 18446744073709551615) : -9223372036854775808 ≤ zag u ∧ zag u ≤ 9223372036854775807 := by unfold zag; split <;> omega
def dig (u : Nat) : List Int := if u < 128 then [(u : Int)] else (((u % 128 : Nat) : Int) + 128) :: dig (u / 128)
termination_by u
decreasing_by omega
theorem dig_small {u : Nat} (h : u < 128) : dig u = [(u : Int)] := by rw [dig, if_pos h]
theorem dig_big {u : Nat} (h : ¬ u < 128) : dig u = (((u % 128 : Nat) : Int) + 128) :: dig (u / 128) := by rw [dig, if_neg h]
theorem dig_len : ∀ (m u : Nat), u < 128 ^ (m + 1) → 1 ≤ (dig u).length ∧ (dig u).length ≤ m + 1 := by
  intro m
  induction m with
  | zero => intro u h; rw [dig_small (by omega)]; simp
  | succ m ih =>
    intro u h
    by_cases hs : u < 128
    · rw [dig_small hs]; simp
    · rw [dig_big hs]
      have := ih (u / 128) (by rw [Nat.div_lt_iff_lt_mul (by decide), ← Nat.pow_succ]; exact h)
      simp only [List.length_cons]
      omega
theorem dig_len10 {u : Nat} (h : u < 18446744073709551616) : 1 ≤ (dig u).length ∧ (dig u).length ≤ 10 := dig_len 9 u (by omega)
def scan (most : Nat) (top : Int) : Nat → Int → List Int → Int × Int × Int
  | _, _, [] => (0, 0, 1)
  | i, u, c :: r => if i + 1 = most ∧ top < c then (0, 0, 21) else if 128 ≤ c then scan most top (i + 1) (u + c % 128 * 128 ^ i) r else if c = 0 ∧ 0 < i then (0, 0, 20) else (u + c % 128 * 128 ^ i, (i : Int) + 1, 0)
def answer (at_ : Int) (s : Int × Int × Int) : Int × Int × Int := if s.2.2 = 0 then (s.1, at_ + s.2.1, 0) else (0, 0, s.2.2)
theorem pow_step (i : Nat) (u c : Int) (hu0 : 0 ≤ u) (hu : u < 128 ^ i) : 0 ≤ u + c % 128 * 128 ^ i ∧ u + c % 128 * 128 ^ i < 128 ^ (i + 1) := by
  have hp : (0 : Int) < 128 ^ i := Int.pow_pos (by decide)
  have h1 : c % 128 * 128 ^ i ≤ 127 * 128 ^ i := Int.mul_le_mul_of_nonneg_right (by omega) (Int.le_of_lt hp)
  have h0 : 0 ≤ c % 128 * 128 ^ i := Int.mul_nonneg (by omega) (Int.le_of_lt hp)
  rw [Int.pow_succ]
  omega
def byts (l : List Int) : Prop := ∀ x ∈ l, 0 ≤ x ∧ x ≤ 255
def getS (most : Nat) (top : Int) (b : List Int) (at_ : Int) : Int × Int × Int := if at_ < 0 ∨ (b.length : Int) < at_ then (0, 0, 3) else answer at_ (scan most top 0 0 (b.drop at_.toNat))
theorem bytes_drop {b : List Int} (hb : byts b) (n : Nat) : byts (b.drop n) := fun x hx => hb x (List.mem_of_mem_drop hx)
theorem bytes_take {b : List Int} (hb : byts b) (n : Nat) : byts (b.take n) := fun x hx => hb x (List.mem_of_mem_take hx)
theorem bytes_append {a b : List Int} (ha : byts a) (hb : byts b) : byts (a ++ b) := fun x hx => (List.mem_append.1 hx).elim (ha x) (hb x)
theorem scan_range (most : Nat) (top : Int) (htop : 0 ≤ top) (htop2 : top < 128) : ∀ (l : List Int) (i d : Nat) (u : Int), byts l → i + d + 1 = most → 0 ≤ u → u < 128 ^ i → 0 ≤ (scan most top i u l).1 ∧ (scan most top i u l).1 < (top + 1) * 128 ^ (most - 1) := by
  intro l
  induction l with
  | nil =>
    intro i d u hb hd hu0 hu
    simp only [scan]
    exact ⟨by omega, Int.mul_pos (by omega) (Int.pow_pos (by decide))⟩
  | cons c r ih =>
    intro i d u hb hd hu0 hu
    have hc := hb c (List.mem_cons_self ..)
    have hP : (0 : Int) < (top + 1) * 128 ^ (most - 1) := Int.mul_pos (by omega) (Int.pow_pos (by decide))
    have hps := pow_step i u c hu0 hu
    simp only [scan]
    split
    · exact ⟨by simp, hP⟩
    · split
      · cases d with
        | zero => exfalso; omega
        | succ d => exact ih (i + 1) d _ (fun x hx => hb x (List.mem_cons_of_mem _ hx)) (by omega) hps.1 hps.2
      · split
        · exact ⟨by simp, hP⟩
        · refine ⟨hps.1, ?_⟩
          show u + c % 128 * 128 ^ i < (top + 1) * 128 ^ (most - 1)
          by_cases hi : i + 1 = most
          · rw [show most - 1 = i by omega]
            have hp : (0 : Int) < 128 ^ i := Int.pow_pos (by decide)
            have h1 : c % 128 * 128 ^ i ≤ top * 128 ^ i := Int.mul_le_mul_of_nonneg_right (by omega) (Int.le_of_lt hp)
            rw [Int.add_mul]
            omega
          · refine Int.lt_of_lt_of_le hps.2 ?_
            have h1 : (128 : Int) ^ (i + 1) ≤ 128 ^ (most - 1) := by exact_mod_cast Nat.pow_le_pow_right (by decide) (by omega)
            have h2 : (0 : Int) < 128 ^ (most - 1) := Int.pow_pos (by decide)
            have h3 : (0 : Int) ≤ top * 128 ^ (most - 1) := Int.mul_nonneg htop (Int.le_of_lt h2)
            rw [Int.add_mul]
            omega
theorem getS_range (most : Nat) (top : Int) (hm : 1 ≤ most) (htop : 0 ≤ top) (htop2 : top < 128) (b : List Int) (at_ : Int) (hb : byts b) : 0 ≤ (getS most top b at_).1 ∧ (getS most top b at_).1 < (top + 1) * 128 ^ (most - 1) := by
  have hP : (0 : Int) < (top + 1) * 128 ^ (most - 1) := Int.mul_pos (by omega) (Int.pow_pos (by decide))
  unfold getS
  split
  · exact ⟨by simp, hP⟩
  · unfold answer
    split
    · exact scan_range most top htop htop2 _ 0 (most - 1) 0 (bytes_drop hb _) (by omega) (by omega) (by simp)
    · exact ⟨by simp, hP⟩
theorem scan_dig (most : Nat) (top : Nat) (htop2 : top < 128) (t : List Int) : ∀ (d v i : Nat) (u : Int), i + d + 1 = most → v < (top + 1) * 128 ^ d → (v ≠ 0 ∨ i = 0) →
    scan most top i u (dig v ++ t) = (u + v * 128 ^ i, (i : Int) + (dig v).length, 0) := by
  intro d
  induction d with
  | zero =>
    intro v i u hd hv h0
    rw [dig_small (by omega)]
    simp only [List.cons_append, List.nil_append, scan]
    rw [if_neg (by omega), if_neg (by omega), if_neg (by omega), Int.emod_eq_of_lt (by omega) (by omega)]
    simp
  | succ d ih =>
    intro v i u hd hv h0
    by_cases hs : v < 128
    · rw [dig_small hs]
      simp only [List.cons_append, List.nil_append, scan]
      rw [if_neg (by omega), if_neg (by omega), if_neg (by omega), Int.emod_eq_of_lt (by omega) (by omega)]
      simp
    · rw [dig_big hs]
      simp only [List.cons_append, scan]
      rw [if_neg (by omega), if_pos (by omega), ih (v / 128) (i + 1) _ (by omega) (by rw [Nat.div_lt_iff_lt_mul (by decide), Nat.mul_assoc, ← Nat.pow_succ]; exact hv) (by omega)]
      have e : ((v % 128 : Nat) : Int) + 128 = (v : Int) % 128 + 128 := by omega
      have e2 : (((v % 128 : Nat) : Int) + 128) % 128 = (v : Int) % 128 := by omega
      rw [e2, Int.pow_succ]
      simp only [List.length_cons]
      refine Prod.ext ?_ (Prod.ext ?_ rfl)
      · show u + (v : Int) % 128 * 128 ^ i + ((v / 128 : Nat) : Int) * (128 ^ i * 128) = u + v * 128 ^ i
        have h2 : (v : Int) = (v : Int) % 128 + ((v / 128 : Nat) : Int) * 128 := by omega
        generalize ((v / 128 : Nat) : Int) = q at *
        generalize (v : Int) % 128 = m at *
        rw [h2, Int.add_mul, Int.add_assoc, Int.mul_assoc, Int.mul_comm (128 ^ i) 128]
      · show ((i + 1 : Nat) : Int) + ((dig (v / 128)).length : Int) = (i : Int) + (((dig (v / 128)).length + 1 : Nat) : Int)
        omega
theorem scan_only (most : Nat) (top : Nat) (htop2 : top < 128) : ∀ (l : List Int) (d i : Nat) (u : Int), byts l → i + d + 1 = most → (scan most top i u l).2.2 = 0 →
    ∃ v t, l = dig v ++ t ∧ v < (top + 1) * 128 ^ d ∧ (v ≠ 0 ∨ i = 0) := by
  intro l
  induction l with
  | nil => intro d i u hb hd h; simp [scan] at h
  | cons c r ih =>
    intro d i u hb hd h
    have hc := hb c (List.mem_cons_self ..)
    simp only [scan] at h
    split at h
    · simp at h
    · rename_i hn
      split at h
      · rename_i h128
        cases d with
        | zero => exfalso; omega
        | succ d =>
          obtain ⟨v, t, rfl, hv, h0⟩ := ih d (i + 1) _ (fun x hx => hb x (List.mem_cons_of_mem _ hx)) (by omega) h
          refine ⟨c.toNat - 128 + 128 * v, t, ?_, ?_, by omega⟩
          · rw [dig_big (u := c.toNat - 128 + 128 * v) (by omega), show (c.toNat - 128 + 128 * v) / 128 = v by omega, List.cons_append]
            congr 1
            omega
          · rw [Nat.pow_succ, ← Nat.mul_assoc]
            omega
      · split at h
        · simp at h
        · rename_i h3
          refine ⟨c.toNat, r, ?_, ?_, by omega⟩
          · rw [dig_small (by omega), Int.toNat_of_nonneg hc.1]; rfl
          · by_cases hi : i + 1 = most
            · obtain rfl : d = 0 := by omega
              omega
            · cases d with
              | zero => exfalso; omega
              | succ d =>
                have : 1 * 128 ≤ (top + 1) * 128 ^ d * 128 := Nat.mul_le_mul_right _ (Nat.mul_pos (by omega) (Nat.pow_pos (by decide)))
                rw [Nat.pow_succ, ← Nat.mul_assoc]
                omega
theorem or_low (v : Nat) : Go.bits .or .u8 ((v : Int) % 256) 128 = ((v % 128 : Nat) : Int) + 128 := by
  rw [or_u8_128 (by omega) (by omega)]; omega
theorem dig_bytes : ∀ (m u : Nat), u < 128 ^ (m + 1) → byts (dig u) := by
  intro m
  induction m with
  | zero => intro u h x hx; rw [dig_small (by omega)] at hx; simp at hx; omega
  | succ m ih =>
    intro u h
    by_cases hs : u < 128
    · intro x hx; rw [dig_small hs] at hx; simp at hx; omega
    · rw [dig_big hs]
      intro x hx
      rcases List.mem_cons.1 hx with rfl | hx
      · omega
      · exact ih (u / 128) (by rw [Nat.div_lt_iff_lt_mul (by decide), ← Nat.pow_succ]; exact h) x hx
theorem dig_bytes10 {u : Nat} (h : u < 18446744073709551616) : byts (dig u) := dig_bytes 9 u (by omega)
def vput (v : Int) : List Int := dig (zig v).toNat
def fit (v : Int) : Prop := -9223372036854775808 ≤ v ∧ v ≤ 9223372036854775807
theorem vput_byts {v : Int} (h : fit v) : byts (vput v) := dig_bytes10 (by have := zig_range h.1 h.2; omega)
theorem vput_len {v : Int} (h : fit v) : 1 ≤ (vput v).length ∧ (vput v).length ≤ 10 := dig_len10 (by have := zig_range h.1 h.2; omega)
def vputAll (vs : List Int) : List Int := (vs.map vput).flatten
theorem vputAll_cons (v : Int) (vs : List Int) : vputAll (v :: vs) = vput v ++ vputAll vs := by simp [vputAll]
theorem vputAll_byts {vs : List Int} (h : ∀ v ∈ vs, fit v) : byts (vputAll vs) := by
  induction vs with
  | nil => intro x hx; simp [vputAll] at hx
  | cons v vs ih => rw [vputAll_cons]; exact bytes_append (vput_byts (h v (List.mem_cons_self ..))) (ih fun w hw => h w (List.mem_cons_of_mem _ hw))
theorem vputAll_len {vs : List Int} (h : ∀ v ∈ vs, fit v) : vs.length ≤ (vputAll vs).length ∧ (vputAll vs).length ≤ 10 * vs.length := by
  induction vs with
  | nil => simp [vputAll]
  | cons v vs ih =>
    rw [vputAll_cons]
    have := vput_len (h v (List.mem_cons_self ..))
    have := ih fun w hw => h w (List.mem_cons_of_mem _ hw)
    simp only [List.length_append, List.length_cons]
    omega
def ends (at_ : Int) (s : Int × Int × Int) : Int × Int := if s.2.2 = 0 then (at_ + s.2.1 - 1, 0) else (0, s.2.2)
theorem dig_lt (v : Nat) : ∀ m, v < 128 ^ (m + 1) → v < 128 ^ (dig v).length := by
  intro m
  induction m generalizing v with
  | zero => intro h; rw [dig_small (by omega)]; simpa using h
  | succ m ih =>
    intro h
    by_cases hs : v < 128
    · rw [dig_small hs]; simpa using hs
    · rw [dig_big hs, List.length_cons, Nat.pow_succ]
      have := ih (v / 128) (by rw [Nat.div_lt_iff_lt_mul (by decide), ← Nat.pow_succ]; exact h)
      rwa [Nat.div_lt_iff_lt_mul (by decide)] at this
theorem dig_get : ∀ (m v j : Nat) (hj : j < (dig v).length), v < 128 ^ (m + 1) → (dig v)[j] % 128 = ((v / 128 ^ j % 128 : Nat) : Int) := by
  intro m
  induction m with
  | zero =>
    intro v j hj h
    simp only [dig_small (show v < 128 by omega)] at hj ⊢
    obtain rfl : j = 0 := by simpa using hj
    simp
  | succ m ih =>
    intro v j hj h
    by_cases hs : v < 128
    · simp only [dig_small hs] at hj ⊢
      obtain rfl : j = 0 := by simpa using hj
      simp
    · simp only [dig_big hs] at hj ⊢
      cases j with
      | zero => simp
      | succ j =>
        simp only [List.getElem_cons_succ]
        rw [ih (v / 128) j (by simpa using hj) (by rw [Nat.div_lt_iff_lt_mul (by decide), ← Nat.pow_succ]; exact h), Nat.div_div_eq_div_mul, Nat.pow_succ, Nat.mul_comm 128]
theorem scan_used (most : Nat) (top : Int) : ∀ (l : List Int) (i : Nat) (u : Int), (scan most top i u l).2.2 = 0 → ∃ n : Nat, (scan most top i u l).2.1 = n ∧ i < n ∧ n ≤ i + l.length := by
  intro l
  induction l with
  | nil => intro i u h; simp [scan] at h
  | cons c r ih =>
    intro i u h
    rw [scan] at h ⊢
    split at h
    · simp at h
    · rename_i h1
      rw [if_neg h1]
      split at h
      · rename_i h2
        rw [if_pos h2]
        obtain ⟨n, e, h3, h4⟩ := ih (i + 1) _ h
        exact ⟨n, e, by omega, by rw [List.length_cons]; omega⟩
      · rename_i h2
        rw [if_neg h2]
        split at h
        · simp at h
        · rename_i h3
          rw [if_neg h3]
          exact ⟨i + 1, by simp, by omega, by rw [List.length_cons]; omega⟩
theorem getS_next (b : List Int) (a : Nat) (ha : a ≤ b.length) (h : (getS 10 1 b a).2.2 = 0) : ∃ n : Nat, (getS 10 1 b a).2.1 = n ∧ a < n ∧ n ≤ b.length := by
  unfold getS at h ⊢
  rw [if_neg (by omega)] at h ⊢
  unfold answer at h ⊢
  split at h
  · rename_i h1
    rw [if_pos h1]
    rw [Int.toNat_natCast] at h1 ⊢
    obtain ⟨n, e, h3, h4⟩ := scan_used 10 1 _ 0 0 h1
    rw [List.length_drop] at h4
    exact ⟨a + n, by rw [e]; simp, by omega, by omega⟩
  · rename_i h1
    exact absurd h h1
def ga (b : List Int) : Nat → List Int → Int → List Int × Int × Int
  | 0, acc, _ => (acc, 0, 0)
  | n + 1, acc, a => if a < b.length then (if (getS 10 1 b a).2.2 = 0 then ga b n (acc ++ [zag (getS 10 1 b a).1]) (getS 10 1 b a).2.1 else ([], a, (getS 10 1 b a).2.2)) else (acc, 0, 0)
theorem ga_len (b : List Int) : ∀ (n : Nat) (acc : List Int) (a : Int), (ga b n acc a).1.length ≤ acc.length + n
  | 0, _, _ => by simp [ga]
  | n + 1, acc, a => by
    rw [ga]
    split
    · split
      · have := ga_len b n (acc ++ [zag (getS 10 1 b a).1]) (getS 10 1 b a).2.1
        rw [List.length_append, List.length_singleton] at this
        omega
      · simp
    · simp
theorem zig_val {v : Int} (h0 : -9223372036854775808 ≤ v) (h1 : v ≤ 9223372036854775807) : Go.bits .xor .u64 (IntKind.u64.wrap (IntKind.u64.wrap v * 2 ^ min (1 : Int).toNat IntKind.u64.bits)) (IntKind.u64.wrap (v.fdiv (2 ^ min (63 : Int).toNat IntKind.i64.bits))) = zig v := by
  rw [show (2 : Int) ^ min (1 : Int).toNat IntKind.u64.bits = 2 from rfl, show (2 : Int) ^ min (63 : Int).toNat IntKind.i64.bits = 9223372036854775808 from rfl, Int.fdiv_eq_ediv_of_nonneg _ (by decide)]
  unfold zig
  by_cases h : 0 ≤ v
  · rw [if_pos h, show v / 9223372036854775808 = 0 by omega, show IntKind.u64.wrap 0 = 0 from rfl, wrU64, wrU64, show (v % 18446744073709551616 * 2) % 18446744073709551616 = 2 * v by omega, xor_u64_zero (by omega) (by omega)]
  · rw [if_neg h, show v / 9223372036854775808 = -1 by omega, show IntKind.u64.wrap (-1) = 18446744073709551615 from rfl, wrU64, wrU64, show (v % 18446744073709551616 * 2) % 18446744073709551616 = 2 * v + 18446744073709551616 by omega, xor_u64_ones (by omega) (by omega)]
    omega
theorem zag_val {u : Int} (h0 : 0 ≤ u) (h1 : u ≤ 18446744073709551615) : Go.bits .xor .i64 (IntKind.i64.wrap (u.fdiv (2 ^ min (1 : Int).toNat IntKind.u64.bits))) (IntKind.i64.wrap (0 - IntKind.i64.wrap (Go.bits .and .u64 u 1))) = zag u := by
  rw [show (2 : Int) ^ min (1 : Int).toNat IntKind.u64.bits = 2 from rfl, Int.fdiv_eq_ediv_of_nonneg _ (by decide), and_u64_one h0 h1, wrap64_of (x := u % 2) (by omega) (by omega), wrap64_of (x := u / 2) (by omega) (by omega), wrap64_of (x := 0 - u % 2) (by omega) (by omega)]
  unfold zag
  by_cases h : u % 2 = 0
  · rw [if_pos h, h, show (0 : Int) - 0 = 0 from rfl, xor_i64_zero (by omega) (by omega)]
  · rw [if_neg h, show u % 2 = 1 by omega, show (0 : Int) - 1 = -1 from rfl, xor_i64_ones (by omega) (by omega)]
    omega
theorem or_shl {i : Nat} {u c : Int} (hi : i ≤ 9) (hu0 : 0 ≤ u) (hu : u < 128 ^ i) (hc0 : 0 ≤ c) (hc : c ≤ 255) (h9 : i = 9 → c % 128 ≤ 1) :
    Go.bits .or .u64 u (IntKind.u64.wrap (IntKind.u64.wrap (Go.bits .and .u8 c 127) * 2 ^ min (7 * (i : Int)).toNat IntKind.u64.bits)) = u + c % 128 * 128 ^ i := by
  rw [and_u8_127 hc0 hc, wrU64 (c % 128), Int.emod_eq_of_lt (by omega) (by omega)]
  rw [show min (7 * (i : Int)).toNat IntKind.u64.bits = 7 * i from by simp [IntKind.bits]; omega]
  have hp : (2 : Int) ^ (7 * i) = 128 ^ i := by rw [Int.pow_mul]; rfl
  have hb : c % 128 * 128 ^ i ≤ 18446744073709551615 ∧ (128 : Int) ^ i ≤ 9223372036854775808 := by
    have : i = 0 ∨ i = 1 ∨ i = 2 ∨ i = 3 ∨ i = 4 ∨ i = 5 ∨ i = 6 ∨ i = 7 ∨ i = 8 ∨ i = 9 := by omega
    rcases this with rfl | rfl | rfl | rfl | rfl | rfl | rfl | rfl | rfl | rfl <;> first | omega | (have := h9 rfl; omega)
  have h0 : 0 ≤ c % 128 * 128 ^ i := Int.mul_nonneg (by omega) (by rw [← hp]; exact Int.le_of_lt (Int.pow_pos (by decide)))
  rw [wrU64, hp, Int.emod_eq_of_lt h0 (by omega)]
  exact or_u64_high (7 * i) (by omega) hu0 (by rw [hp]; exact hu) h0 (by rw [hp]; exact Int.mul_emod_left _ _) hb.1
end Go.Proofs.YtjpgpkkbmoehdaaDoor.Ra.Vn
