/- What Link comes to, the program's and the reference's, by the plain register. -/
import Derived.Test.YtlpgpggaagfdnaaDoorPc
import Derived.Test.YtlpgpggaagfdnaaDoorCk
import Derived.Test.YtlpgpggaagfdnaaDoorQx6
namespace Go.Proofs.YtlpgpggaagfdnaaDoor.Pv
set_option linter.unusedSimpArgs false
open Go.RowKit Go.Proofs.YtlpgpggaagfdnaaDoorW.PrintWords Go.Proofs.YtlpgpggaagfdnaaDoor.Q Go.Proofs.YtlpgpggaagfdnaaDoor.Ev Go.Proofs.YtlpgpggaagfdnaaDoor.Cm

theorem num_zero : num 0#32 = 0 := rfl
theorem half_num (s : BitVec 32) : num s / (2 : Int) = num (s >>> 1) := by have := div_num s 1; simpa using this
theorem bit_num (s : BitVec 32) : (Go.bits .and .u32 (num s) 1 = 0) ↔ s.getLsbD 0 = false := by
  rw [ba, ofInt_num, show BitVec.ofInt 32 1 = 1#32 from rfl, ← num_zero]
  constructor
  · intro h
    have h2 := congrArg (fun v : BitVec 32 => v.getLsbD 0) (num_inj h)
    simpa using h2
  · intro h
    congr 1
    apply BitVec.eq_of_getLsbD_eq
    intro i hi
    rw [BitVec.getLsbD_and]
    by_cases h0 : i = 0
    · subst h0; rw [h]; simp
    · have : (1#32).getLsbD i = false := by simp [BitVec.getLsbD_one]; omega
      rw [this]; simp

/-- A matrix that makes so many steps. -/
def rep (ms : List Int) (m : Nat) : Prop := ms.length = 32 ∧ ∀ i : Nat, i < 32 → rd ms (i : Int) = num (steps m (1#32 <<< i))
theorem mOfL_eq (ms : List Int) (m : Nat) (h : rep ms m) : ∀ (n i : Nat) (s out : BitVec 32), n + i = 32 → (∀ j, n ≤ j → s.getLsbD j = false) → mOfL ms n (num s) i (num out) = num (out ^^^ steps m (s <<< i)) := by
  intro n
  induction n with
  | zero =>
    intro i s out hi hs
    have : s = 0#32 := BitVec.eq_of_getLsbD_eq fun j _ => by rw [hs j (Nat.zero_le _)]; simp
    subst this
    simp [mOfL, steps_zero]
  | succ n ih =>
    intro i s out hi hs
    rw [mOfL]
    by_cases h0 : num s = 0
    · have : s = 0#32 := num_inj (by rw [h0, num_zero])
      subst this
      rw [if_pos h0]
      simp [steps_zero]
    · rw [if_neg h0, half_num]
      have hs2 : ∀ j, n ≤ j → (s >>> 1).getLsbD j = false := fun j hj => by rw [BitVec.getLsbD_ushiftRight]; exact hs _ (by omega)
      have e : s <<< i = ((s >>> 1) <<< (i + 1)) ^^^ (if s.getLsbD 0 then 1#32 <<< i else 0#32) := by
        apply BitVec.eq_of_getLsbD_eq
        intro j hj
        rw [BitVec.getLsbD_xor, BitVec.getLsbD_shiftLeft, BitVec.getLsbD_shiftLeft, BitVec.getLsbD_ushiftRight]
        by_cases c1 : j < i
        · have c2 : j < i + 1 := by omega
          cases s.getLsbD 0 <;> simp [c1, c2, hj, BitVec.getLsbD_shiftLeft]
        · by_cases c3 : j = i
          · subst c3
            cases h4 : s.getLsbD 0 <;> simp only [BitVec.getLsbD_xor, hj, decide_true, Nat.lt_irrefl, decide_false, Bool.not_false, Nat.sub_self, h4] <;> simp [hj]
          · have c2 : ¬ j < i + 1 := by omega
            have c4 : 1 + (j - (i + 1)) = j - i := by omega
            have c5 : ¬ j - i = 0 := by omega
            cases s.getLsbD 0 <;> simp [c1, c2, hj, c4, BitVec.getLsbD_shiftLeft, BitVec.getLsbD_one, c5]
      rw [show ((i : Int) + 1) = ((i + 1 : Nat) : Int) by omega]
      by_cases hb : s.getLsbD 0 = false
      · rw [if_pos ((bit_num s).2 hb), ih (i + 1) _ _ (by omega) hs2, e, hb]
        simp
      · rw [if_neg (fun h => hb ((bit_num s).1 h)), h.2 i (by omega), xor_num, ih (i + 1) _ _ (by omega) hs2, e, steps_xor]
        simp only [Bool.not_eq_false] at hb
        rw [hb, if_pos rfl, BitVec.xor_assoc, BitVec.xor_comm (steps m (1#32 <<< i))]
theorem mOf_eq (ms : List Int) (m : Nat) (h : rep ms m) (s : BitVec 32) : mOf ms (num s) = num (steps m s) := by
  have := mOfL_eq ms m h 32 0 s 0#32 (by omega) (fun j hj => BitVec.getLsbD_of_ge _ _ hj)
  simpa [mOf, num_zero] using this
theorem rep_twice (ms : List Int) (m : Nat) (h : rep ms m) : rep (ms.map (mOf ms)) (m + m) := by
  refine ⟨by rw [List.length_map, h.1], fun i hi => ?_⟩
  have h1 := h.2 i hi
  have hl := h.1
  have e : rd (ms.map (mOf ms)) (i : Int) = mOf ms (rd ms (i : Int)) := by
    rw [rd_at _ i (by rw [List.length_map]; omega), rd_at _ i (by omega), List.getElem_map]
  rw [e, h1, mOf_eq ms m h, steps_add]
theorem zstep_eq (s : BitVec 32) : zstep (num s) = num (Cm.step s) := by
  unfold zstep Cm.step
  rw [half_num]
  by_cases hb : s.getLsbD 0 = false
  · rw [if_pos ((bit_num s).2 hb), hb]; rfl
  · rw [if_neg (fun h => hb ((bit_num s).1 h)), show (2197175160 : Int) = num P from rfl, xor_num]
    simp only [Bool.not_eq_false] at hb
    rw [hb, if_pos rfl]
theorem zsteps_eq : ∀ (n : Nat) (s : BitVec 32), zsteps n (num s) = num (steps n s)
  | 0, _ => rfl
  | n + 1, s => by rw [zsteps, zstep_eq, zsteps_eq n]; rfl
theorem zrow_rep : rep zrow 8 := by
  refine ⟨by simp [zrow], fun i hi => ?_⟩
  rw [rd_at _ i (by simp [zrow]; omega)]
  simp only [zrow, List.getElem_map, List.getElem_range]
  have : (2 : Int) ^ i % 4294967296 = num (1#32 <<< i) := by
    have : ∀ i : Fin 32, (2 : Int) ^ i.val % 4294967296 = num (1#32 <<< i.val) := by decide +kernel
    exact this ⟨i, hi⟩
  rw [this, zsteps_eq]
theorem bit63 {n : Int} (h0 : 0 ≤ n) (h1 : n < 9223372036854775808) : Go.bits .and .i64 n 1 = n % 2 := by
  obtain ⟨k, rfl⟩ := Int.eq_ofNat_of_zero_le h0
  have e : Go.bits .and .i64 (k : Int) 1 = IntKind.i64.wrap ((BitVec.ofInt 64 (k : Int) &&& BitVec.ofInt 64 1).toNat : Int) := rfl
  have e2 : (BitVec.ofInt 64 (k : Int) &&& BitVec.ofInt 64 1).toNat = k % 2 := by
    rw [BitVec.toNat_and, show (BitVec.ofInt 64 1).toNat = 1 from rfl, Nat.and_one_is_mod, BitVec.ofInt_natCast, BitVec.toNat_ofNat]
    omega
  rw [e, e2, IntKind.wrap_i64]
  omega
theorem linkL_eq : ∀ (r : Nat) (ms : List Int) (m : Nat) (a : BitVec 32) (n : Nat), rep ms m → n < 2 ^ r → n < 9223372036854775808 → linkL r ms (num a) (n : Int) = num (steps (m * n) a) := by
  intro r
  induction r with
  | zero =>
    intro ms m a n _ hn _
    have : n = 0 := by simpa using hn
    subst this
    rfl
  | succ r ih =>
    intro ms m a n hr hn h63
    rw [linkL]
    by_cases h0 : 0 < (n : Int)
    · rw [if_pos h0, bit63 (by omega) (by omega)]
      have hd : ((n : Int) / 2) = ((n / 2 : Nat) : Int) := by omega
      have hn2 : n / 2 < 2 ^ r := by rw [Nat.pow_succ] at hn; omega
      rw [hd]
      by_cases hb : (n : Int) % 2 = 0
      · rw [if_pos hb, ih _ (m + m) a (n / 2) (rep_twice ms m hr) hn2 (by omega)]
        congr 2
        have : n = 2 * (n / 2) := by omega
        conv => rhs; rw [this]
        rw [← Nat.mul_assoc, Nat.mul_comm m 2, Nat.two_mul]
      · rw [if_neg hb, mOf_eq ms m hr, ih _ (m + m) _ (n / 2) (rep_twice ms m hr) hn2 (by omega), ← steps_add]
        congr 2
        have : n = 2 * (n / 2) + 1 := by omega
        conv => rhs; rw [this]
        rw [Nat.mul_add, Nat.mul_one, ← Nat.mul_assoc, Nat.mul_comm m 2, Nat.two_mul, Nat.add_comm]
    · rw [if_neg h0]
      have : n = 0 := by omega
      subst this
      rfl
theorem Link_eq (a c : BitVec 32) (n : Int) (h1 : n < 9223372036854775808) : crc_Link.f (num a) (num c) n = some (num (lk a c n.toNat)) := by
  unfold crc_Link.f
  have ha := num_range a
  rw [if_pos ⟨ha.1, by omega, h1⟩]
  by_cases h0 : 0 ≤ n
  · obtain ⟨k, rfl⟩ := Int.eq_ofNat_of_zero_le h0
    rw [linkL_eq 64 zrow 8 a k zrow_rep (by omega) (by omega), xor_num]
    rfl
  · rw [linkL_neg _ _ _ _ (by omega), xor_num, Int.toNat_of_nonpos (by omega)]
    rfl
theorem Link_ev (a c : BitVec 32) (n : Int) (h1 : n < 9223372036854775808) : Ev (fun _ => crc_Link.f (num a) (num c) n) (num (lk a c n.toNat)) := const (Link_eq a c n h1)
theorem crc_lk (x y : List Int) : crc (x ++ y) = lk (crc x) (crc y) y.length := by
  unfold crc
  rw [upd_append, upd_lk]

/- the reference's -/
theorem top_num (a : BitVec 32) : num a / (2147483648 : Int) = if a.getLsbD 31 then 1 else 0 := by
  have h : num a / (2 : Int) ^ 31 = num (a >>> 31) := div_num a 31
  have e : (2 : Int) ^ 31 = 2147483648 := by decide
  rw [e] at h
  rw [h]
  have h2 : a >>> 31 = if a.getLsbD 31 then 1#32 else 0#32 := by
    apply BitVec.eq_of_getLsbD_eq
    intro i hi
    rw [BitVec.getLsbD_ushiftRight]
    by_cases h0 : i = 0
    · subst h0; cases h3 : a.getLsbD 31 <;> simp [h3]
    · have : a.getLsbD (31 + i) = false := BitVec.getLsbD_of_ge _ _ (by omega)
      rw [this]
      cases a.getLsbD 31 <;> simp [BitVec.getLsbD_one, h0]
  rw [h2]
  cases a.getLsbD 31 <;> rfl
theorem shl_num (a : BitVec 32) : num a * (2 : Int) % (4294967296 : Int) = num (a <<< 1) := by
  unfold num
  rw [BitVec.toNat_shiftLeft, Nat.shiftLeft_eq]
  omega
theorem times_l0 : ∀ (n j : Nat) (a b out : BitVec 32), n + j = 32 → Ev (fun k => leatref03_times.l0 k (num a) (num b) (num out) j) (num (tl n a b out)) := by
  intro n
  induction n with
  | zero =>
    intro j a b out hj
    refine succ ?_
    simp only [leatref03_times.l0]
    exact neg (by omega) (Ev.now _)
  | succ n ih =>
    intro j a b out hj
    refine succ ?_
    simp only [leatref03_times.l0]
    refine pos (by omega) ?_
    rw [top_num, shl_num, w64 (by omega) (by omega)]
    cases h : a.getLsbD 31
    · refine neg (by simp) (Ev.bind (step_ev b) ?_)
      have := ih (j + 1) (a <<< 1) (Cm.step b) out (by omega)
      rw [tl, h]
      simpa using this
    · refine pos (by simp) (Ev.bind (step_ev b) ?_)
      rw [xor_num]
      have := ih (j + 1) (a <<< 1) (Cm.step b) (out ^^^ b) (by omega)
      rw [tl, h]
      simpa using this
theorem times_ev (a b : BitVec 32) : Ev (fun k => leatref03_times.f k (num a) (num b)) (num (T a b)) := times_l0 32 0 a b 0#32 (by omega)
theorem rLink_l0 (a c : BitVec 32) : ∀ (r n u v : Nat), n < 2 ^ r → n < 9223372036854775808 → Ev (fun k => leatref03_Link.l0 k (num a) (num c) n (num (steps u one)) (num (steps v one))) (num (steps (u + v * n) a ^^^ c)) := by
  intro r
  induction r with
  | zero =>
    intro n u v hn _
    have : n = 0 := by simpa using hn
    subst this
    refine succ ?_
    simp only [leatref03_Link.l0]
    refine neg (by omega) ?_
    have := times_ev a (steps u one)
    rw [T_steps, T_one] at this
    refine Ev.bind this ?_
    rw [xor_num]
    exact Ev.now _
  | succ r ih =>
    intro n u v hn h63
    refine succ ?_
    simp only [leatref03_Link.l0]
    by_cases h0 : n = 0
    · subst h0
      refine neg (by omega) ?_
      have := times_ev a (steps u one)
      rw [T_steps, T_one] at this
      refine Ev.bind this ?_
      rw [xor_num]
      exact Ev.now _
    · refine pos (by omega) ?_
      have hq : Ev (fun k => leatref03_times.f k (num (steps v one)) (num (steps v one))) (num (steps (v + v) one)) := by
        have := times_ev (steps v one) (steps v one)
        rw [T_pow, ← steps_add] at this
        exact this
      have hn2 : n / 2 < 2 ^ r := by rw [Nat.pow_succ] at hn; omega
      rw [Int.tmod_eq_emod_of_nonneg (by omega), Int.tdiv_eq_ediv_of_nonneg (by omega), show ((n : Int) / 2) = ((n / 2 : Nat) : Int) by omega, show wrap64 ((n / 2 : Nat) : Int) = ((n / 2 : Nat) : Int) from w64 (by omega) (by omega)]
      by_cases hb : (n : Int) % 2 = 1
      · refine pos hb ?_
        have hp : Ev (fun k => leatref03_times.f k (num (steps u one)) (num (steps v one))) (num (steps (u + v) one)) := by
          have := times_ev (steps u one) (steps v one)
          rw [T_pow, ← steps_add, Nat.add_comm] at this
          exact this
        refine Ev.bind hp (Ev.bind hq ?_)
        have := ih (n / 2) (u + v) (v + v) hn2 (by omega)
        rw [show u + v + (v + v) * (n / 2) = u + v * n from by
          have h2 : n = 2 * (n / 2) + 1 := by omega
          conv => rhs; rw [h2]
          rw [Nat.mul_add, Nat.mul_one, ← Nat.mul_assoc, Nat.mul_comm v 2, Nat.two_mul, Nat.add_assoc, Nat.add_comm v]] at this
        exact this
      · refine neg hb (Ev.bind hq ?_)
        have := ih (n / 2) u (v + v) hn2 (by omega)
        rw [show u + (v + v) * (n / 2) = u + v * n from by
          have h2 : n = 2 * (n / 2) := by omega
          conv => rhs; rw [h2]
          rw [← Nat.mul_assoc, Nat.mul_comm v 2, Nat.two_mul]] at this
        exact this
theorem rLink_ev (a c : BitVec 32) (n : Int) (h1 : n < 9223372036854775808) : Ev (fun k => leatref03_Link.f k (num a) (num c) n) (num (lk a c n.toNat)) := by
  by_cases h0 : 0 ≤ n
  · obtain ⟨k, rfl⟩ := Int.eq_ofNat_of_zero_le h0
    have := rLink_l0 a c 64 k 0 8 (by omega) (by omega)
    rw [← eighth, Nat.zero_add] at this
    exact this
  · rw [Int.toNat_of_nonpos (by omega)]
    unfold leatref03_Link.f
    refine succ ?_
    simp only [leatref03_Link.l0]
    refine neg (by omega) ?_
    have := times_ev a one
    rw [T_one] at this
    refine Ev.bind this ?_
    rw [xor_num]
    exact Ev.now _
end Go.Proofs.YtlpgpggaagfdnaaDoor.Pv
