/- The plain laws of the Castagnoli register: no program in sight. -/
import Derived.Test.YtjpgpkkbmoehdaaDoorVa
namespace Go.Proofs.YtjpgpkkbmoehdaaDoor.Ra.Cm
open Go
set_option linter.unusedVariables false
set_option linter.unusedSimpArgs false

def P : BitVec 32 := 0x82F63B78#32

/-- One step of the register. -/
def step (s : BitVec 32) : BitVec 32 := if s.getLsbD 0 then (s >>> 1) ^^^ P else s >>> 1

theorem step_xor (a b : BitVec 32) : step (a ^^^ b) = step a ^^^ step b := by
  unfold step
  rw [BitVec.getLsbD_xor, BitVec.ushiftRight_xor_distrib]
  cases a.getLsbD 0 <;> cases b.getLsbD 0 <;> simp
  · rw [BitVec.xor_assoc]
  · rw [BitVec.xor_assoc, BitVec.xor_assoc, BitVec.xor_comm P]
  · rw [BitVec.xor_assoc (a >>> 1) P, ← BitVec.xor_assoc P, BitVec.xor_comm P, BitVec.xor_assoc (b >>> 1) P P]
    simp

def steps : Nat → BitVec 32 → BitVec 32
  | 0, s => s
  | n + 1, s => steps n (step s)

theorem steps_xor (n : Nat) (a b : BitVec 32) : steps n (a ^^^ b) = steps n a ^^^ steps n b := by
  induction n generalizing a b with
  | zero => rfl
  | succ n ih => simp only [steps, step_xor, ih]

theorem steps_add (m n : Nat) (s : BitVec 32) : steps (m + n) s = steps n (steps m s) := by
  induction m generalizing s with
  | zero => simp [steps]
  | succ m ih => rw [Nat.succ_add]; exact ih _

theorem steps_zero (n : Nat) : steps n 0#32 = 0#32 := by
  induction n with
  | zero => rfl
  | succ n ih => exact ih

/-- A step taken back. -/
def back (s : BitVec 32) : BitVec 32 := if s.getLsbD 31 then ((s ^^^ P) <<< 1) ||| 1#32 else s <<< 1


theorem back_step (s : BitVec 32) : back (step s) = s := by
  unfold back step
  apply BitVec.eq_of_getLsbD_eq
  intro i hi
  by_cases h : s.getLsbD 0
  · have hP : P.getLsbD 31 = true := by decide
    simp only [h, if_true, BitVec.getLsbD_xor, BitVec.getLsbD_ushiftRight, hP]
    have h32 : s.getLsbD (1 + 31) = false := BitVec.getLsbD_of_ge _ _ (by decide)
    simp only [h32, Bool.false_xor, if_true, BitVec.xor_assoc, BitVec.xor_self, BitVec.xor_zero]
    rw [BitVec.getLsbD_or, BitVec.getLsbD_shiftLeft]
    by_cases h0 : i = 0
    · subst h0; simp [h]
    · have h1 : 1 + (i - 1) = i := by omega
      simp [BitVec.getLsbD_ushiftRight, h1, h0, hi]
  · simp only [h]
    have h32 : s.getLsbD (1 + 31) = false := BitVec.getLsbD_of_ge _ _ (by decide)
    simp only [Bool.false_eq_true, if_false, BitVec.getLsbD_ushiftRight, h32]
    rw [BitVec.getLsbD_shiftLeft]
    by_cases h0 : i = 0
    · subst h0; simp at h; simp [h]
    · have h1 : 1 + (i - 1) = i := by omega
      simp [BitVec.getLsbD_ushiftRight, h1, h0, hi]


theorem step_back (s : BitVec 32) : step (back s) = s := by
  unfold back step
  apply BitVec.eq_of_getLsbD_eq
  intro i hi
  by_cases h : s.getLsbD 31
  · have h0 : (((s ^^^ P) <<< 1) ||| 1#32).getLsbD 0 = true := by simp
    simp only [h, if_true, h0, BitVec.getLsbD_xor, BitVec.getLsbD_ushiftRight]
    rw [BitVec.getLsbD_or, BitVec.getLsbD_shiftLeft]
    by_cases h31 : i = 31
    · subst h31; have hP : P.getLsbD 31 = true := by decide
      rw [h, hP]; simp
    · have h1 : 1 + i - 1 = i := by omega
      have h2 : 1 + i < 32 := by omega
      simp [h1, h2]
  · have h0 : (s <<< 1).getLsbD 0 = false := by simp
    simp only [h, Bool.false_eq_true, if_false, h0, BitVec.getLsbD_ushiftRight]
    rw [BitVec.getLsbD_shiftLeft]
    by_cases h31 : i = 31
    · subst h31; simp at h; simp [h]
    · have h1 : 1 + i - 1 = i := by omega
      have h2 : 1 + i < 32 := by omega
      simp [h1, h2]

def backs : Nat → BitVec 32 → BitVec 32
  | 0, s => s
  | n + 1, s => backs n (back s)

theorem backs_succ (n : Nat) (s : BitVec 32) : backs (n + 1) s = back (backs n s) := by
  induction n generalizing s with
  | zero => rfl
  | succ n ih => exact ih _
theorem steps_succ (n : Nat) (s : BitVec 32) : steps (n + 1) s = step (steps n s) := by
  induction n generalizing s with
  | zero => rfl
  | succ n ih => exact ih _
theorem steps_backs (n : Nat) (s : BitVec 32) : steps n (backs n s) = s := by
  induction n with
  | zero => rfl
  | succ n ih => rw [backs_succ]; simp only [steps]; rw [step_back, ih]
theorem backs_steps (n : Nat) (s : BitVec 32) : backs n (steps n s) = s := by
  induction n with
  | zero => rfl
  | succ n ih => rw [steps_succ]; simp only [backs]; rw [back_step, ih]
theorem steps_inj (n : Nat) {a b : BitVec 32} (h : steps n a = steps n b) : a = b := by
  rw [← backs_steps n a, h, backs_steps]


/-- Two that go by bits alike are alike. -/
theorem lin_ext (f g : BitVec 32 → BitVec 32) (hf : ∀ a b, f (a ^^^ b) = f a ^^^ f b) (hg : ∀ a b, g (a ^^^ b) = g a ^^^ g b) (h : ∀ j, j < 32 → f (1#32 <<< j) = g (1#32 <<< j)) (x : BitVec 32) : f x = g x := by
  have f0 : f 0#32 = 0#32 := by have := hf 0#32 0#32; simpa using this
  have g0 : g 0#32 = 0#32 := by have := hg 0#32 0#32; simpa using this
  have key : ∀ n, n ≤ 32 → ∀ y : BitVec 32, (∀ j, n ≤ j → y.getLsbD j = false) → f y = g y := by
    intro n
    induction n with
    | zero =>
      intro _ y hy
      have : y = 0#32 := BitVec.eq_of_getLsbD_eq fun i hi => by rw [hy i (Nat.zero_le _)]; simp
      rw [this, f0, g0]
    | succ n ih =>
      intro hn y hy
      by_cases hb : y.getLsbD n
      · have e : y = (y ^^^ (1#32 <<< n)) ^^^ (1#32 <<< n) := by rw [BitVec.xor_assoc, BitVec.xor_self, BitVec.xor_zero]
        rw [e, hf, hg, h n (by omega), ih (by omega) (y ^^^ (1#32 <<< n)) (fun j hj => ?_)]
        rw [BitVec.getLsbD_xor, BitVec.getLsbD_shiftLeft]
        by_cases hjn : j = n
        · subst hjn; simp [hb]; omega
        · rw [hy j (by omega)]
          simp; omega
      · exact ih (by omega) y fun j hj => by
          by_cases hjn : j = n
          · subst hjn; simpa using hb
          · exact hy j (by omega)
  exact key 32 (Nat.le_refl _) x fun j hj => BitVec.getLsbD_of_ge _ _ hj

theorem step_even {s : BitVec 32} (h : s.getLsbD 0 = false) : step s = s >>> 1 := by unfold step; rw [h]; rfl
/-- Low bits that are clear only move. -/
theorem steps_shift : ∀ (n : Nat) (s : BitVec 32), (∀ j, j < n → s.getLsbD j = false) → steps n s = s >>> n := by
  intro n
  induction n with
  | zero => intro s _; simp [steps]
  | succ n ih =>
    intro s h
    simp only [steps]
    rw [step_even (h 0 (by omega)), ih (s >>> 1) (fun j hj => by rw [BitVec.getLsbD_ushiftRight]; exact h _ (by omega)), ← BitVec.shiftRight_add, Nat.add_comm]

/-- n steps: the low n bits by themselves, the rest moved. -/
theorem steps_split (n : Nat) (s : BitVec 32) (m : BitVec 32) (hm : ∀ j, j < 32 → m.getLsbD j = decide (j < n)) : steps n s = (s >>> n) ^^^ steps n (s &&& m) := by
  have e : s = (s &&& ~~~m) ^^^ (s &&& m) := by
    apply BitVec.eq_of_getLsbD_eq
    intro i hi
    simp only [BitVec.getLsbD_xor, BitVec.getLsbD_and, BitVec.getLsbD_not, hi, decide_true, Bool.true_and]
    cases s.getLsbD i <;> cases m.getLsbD i <;> rfl
  have hs : steps n (s &&& ~~~m) = s >>> n := by
    rw [steps_shift n _ (fun j hj => ?_)]
    · apply BitVec.eq_of_getLsbD_eq
      intro i hi
      rw [BitVec.getLsbD_ushiftRight, BitVec.getLsbD_ushiftRight]
      by_cases h32 : n + i < 32
      · rw [BitVec.getLsbD_and, BitVec.getLsbD_not, hm _ h32]; simp [h32]
      · rw [BitVec.getLsbD_of_ge _ _ (by omega), BitVec.getLsbD_of_ge _ _ (by omega)]
    · by_cases h32 : j < 32
      · rw [BitVec.getLsbD_and, BitVec.getLsbD_not, hm _ h32]; simp [hj]
      · exact BitVec.getLsbD_of_ge _ _ (by omega)
  calc steps n s = steps n ((s &&& ~~~m) ^^^ (s &&& m)) := by rw [← e]
    _ = _ := by rw [steps_xor, hs]

/-- A register behind some bytes. -/
def reg (s : BitVec 32) (l : List Int) : BitVec 32 := l.foldl (fun s x => steps 8 (s ^^^ BitVec.ofInt 32 x)) s
theorem reg_append (s : BitVec 32) (a b : List Int) : reg s (a ++ b) = reg (reg s a) b := List.foldl_append ..
theorem reg_cons (s : BitVec 32) (x : Int) (l : List Int) : reg s (x :: l) = reg (steps 8 (s ^^^ BitVec.ofInt 32 x)) l := rfl
/-- The register's part and the bytes' part. -/
theorem reg_split (l : List Int) : ∀ s, reg s l = steps (8 * l.length) s ^^^ reg 0#32 l := by
  induction l with
  | nil => intro s; simp [reg, steps]
  | cons x l ih =>
    intro s
    rw [reg_cons, reg_cons, ih, ih (steps 8 (0#32 ^^^ BitVec.ofInt 32 x)), BitVec.zero_xor, steps_xor, steps_xor, ← steps_add, List.length_cons, show 8 * (l.length + 1) = 8 + 8 * l.length by omega, BitVec.xor_assoc]
def upd (c : BitVec 32) (l : List Int) : BitVec 32 := ~~~(reg (~~~c) l)
theorem upd_append (c : BitVec 32) (a b : List Int) : upd c (a ++ b) = upd (upd c a) b := by unfold upd; rw [reg_append, BitVec.not_not]

/-- A register's number. -/
def num (b : BitVec 32) : Int := (b.toNat : Int)
theorem num_range (b : BitVec 32) : 0 ≤ num b ∧ num b ≤ 4294967295 := by have := b.isLt; unfold num; omega
theorem num_inj {a b : BitVec 32} (h : num a = num b) : a = b := by unfold num at h; exact BitVec.eq_of_toNat_eq (by omega)
theorem ofInt_num (b : BitVec 32) : BitVec.ofInt 32 (num b) = b := by unfold num; rw [BitVec.ofInt_natCast, BitVec.ofNat_toNat, BitVec.setWidth_eq]
theorem num_ofInt {x : Int} (h0 : 0 ≤ x) (h1 : x ≤ 4294967295) : num (BitVec.ofInt 32 x) = x := by
  unfold num
  obtain ⟨n, rfl⟩ := Int.eq_ofNat_of_zero_le h0
  rw [BitVec.ofInt_natCast, BitVec.toNat_ofNat, Nat.mod_eq_of_lt (by omega)]
theorem wrap_num (b : BitVec 32) : IntKind.u32.wrap ((b.toNat : Nat) : Int) = num b := by have := b.isLt; unfold num; rw [IntKind.wrap_u32]; omega
theorem bx (x y : Int) : Go.bits .xor .u32 x y = num (BitVec.ofInt 32 x ^^^ BitVec.ofInt 32 y) := wrap_num _
theorem ba (x y : Int) : Go.bits .and .u32 x y = num (BitVec.ofInt 32 x &&& BitVec.ofInt 32 y) := wrap_num _
theorem xor_num (a b : BitVec 32) : Go.bits .xor .u32 (num a) (num b) = num (a ^^^ b) := by rw [bx, ofInt_num, ofInt_num]
theorem xor_max (a : BitVec 32) : Go.bits .xor .u32 IntKind.u32.max (num a) = num (~~~a) := by
  rw [bx, ofInt_num, show BitVec.ofInt 32 IntKind.u32.max = BitVec.allOnes 32 from by decide, BitVec.allOnes_xor]
theorem div_num (a : BitVec 32) (k : Nat) : num a / 2 ^ k = num (a >>> k) := by
  unfold num; rw [BitVec.toNat_ushiftRight, Nat.shiftRight_eq_div_pow]; simp
/-- The table. -/
def crcRows : List Int := [0, 274646895, 549293790, 820201905, 1098587580, 1361435347, 1640403810, 1905808397, 2197175160, 2460548119, 2722870694, 2987750089, 3280807620, 3553878443, 3811616794, 4084100981]
theorem row_at16 : ∀ i : Fin 16, crcRows.getD i.val 0 = num (steps 4 (BitVec.ofNat 32 i.val)) := by decide +kernel
/-- Half a byte put in, by the table. -/
theorem nib_facts (a : BitVec 32) : ∃ j : Nat, j < 16 ∧ Go.bits .and .u32 (num a) 15 = (j : Int) ∧ (num a).fdiv (2 ^ min (4 : Int).toNat IntKind.u32.bits) = num (a >>> 4) ∧ Go.bits .xor .u32 (num (a >>> 4)) (crcRows.getD j 0) = num (steps 4 a) := by
  have hlt : (a &&& 15#32).toNat < 16 := by
    rw [BitVec.toNat_and]; exact Nat.lt_of_le_of_lt Nat.and_le_right (by decide)
  refine ⟨(a &&& 15#32).toNat, hlt, by rw [ba, ofInt_num]; rfl, ?_, ?_⟩
  · rw [show (2 : Int) ^ min (4 : Int).toNat IntKind.u32.bits = 2 ^ 4 from rfl, Int.fdiv_eq_ediv_of_nonneg _ (by decide)]
    exact div_num a 4
  · rw [row_at16 ⟨_, hlt⟩, xor_num, steps_split 4 a 15#32 (fun j hj => by
      have : ∀ j : Fin 32, (15#32).getLsbD j.val = decide (j.val < 4) := by decide
      exact this ⟨j, hj⟩), BitVec.ofNat_toNat, BitVec.setWidth_eq]
theorem xor_byte (a : BitVec 32) {x : Int} (h0 : 0 ≤ x) (h1 : x ≤ 255) : Go.bits .xor .u32 (num a) x = num (a ^^^ BitVec.ofInt 32 x) := by rw [bx, ofInt_num]
theorem steps_8 (a : BitVec 32) : steps 4 (steps 4 a) = steps 8 a := (steps_add 4 4 a).symm
theorem reg_snoc (s : BitVec 32) (l : List Int) (x : Int) : reg s (l ++ [x]) = steps 8 (reg s l ^^^ BitVec.ofInt 32 x) := by rw [reg_append]; rfl
/-- The sum of some bytes. -/
def crc (l : List Int) : BitVec 32 := upd 0#32 l
theorem cancel_xor (a x y : BitVec 32) (h : a ^^^ x = a ^^^ y) : x = y := by
  have := congrArg (fun z => a ^^^ z) h
  simpa [← BitVec.xor_assoc] using this
theorem reg_inj (l : List Int) {a b : BitVec 32} (h : reg a l = reg b l) : a = b := by
  rw [reg_split l a, reg_split l b, BitVec.xor_comm, BitVec.xor_comm (steps _ b)] at h
  exact steps_inj _ (cancel_xor _ _ _ h)
/-- One byte turned is told. -/
theorem crc_set {l : List Int} {k : Nat} (hk : k < l.length) {y : Int} (hy : BitVec.ofInt 32 y ≠ BitVec.ofInt 32 l[k]) : crc (l.set k y) ≠ crc l := by
  intro h
  unfold crc upd at h
  have h2 : reg (~~~0#32) (l.set k y) = reg (~~~0#32) l := by
    have := congrArg (fun z => ~~~z) h
    simpa using this
  have e1 : l = l.take k ++ l[k] :: l.drop (k + 1) := by rw [← List.drop_eq_getElem_cons hk, List.take_append_drop]
  have e2 : l.set k y = l.take k ++ y :: l.drop (k + 1) := by rw [List.set_eq_take_append_cons_drop, if_pos hk]
  rw [e2] at h2
  conv at h2 => rhs; rw [e1]
  rw [reg_append, reg_append, reg_cons, reg_cons] at h2
  exact hy (cancel_xor _ _ _ (steps_inj 8 (reg_inj _ h2)))
theorem xor8_ne {a b : Int} (ha0 : 0 ≤ a) (ha : a ≤ 255) (hb0 : 0 < b) (hb : b ≤ 255) : BitVec.ofInt 32 (Go.bits .xor .u8 a b) ≠ BitVec.ofInt 32 a := by
  obtain ⟨m, rfl⟩ := Int.eq_ofNat_of_zero_le ha0
  obtain ⟨n, rfl⟩ := Int.eq_ofNat_of_zero_le (Int.le_of_lt hb0)
  have p8 : ((2 ^ IntKind.u8.bits : Nat) : Int) = 256 := rfl
  have hx : m ^^^ n < 256 := Nat.xor_lt_two_pow (n := 8) (by omega) (by omega)
  have e : Go.bits .xor .u8 (m : Int) (n : Int) = ((m ^^^ n : Nat) : Int) := by
    rw [Vn.xor_of (k := .u8) (x := (m : Int)) (y := (n : Int)) m n (by rw [p8]; omega) (by rw [p8]; omega), IntKind.wrap_u8]
    omega
  rw [e]
  intro h2
  have e1 : ∀ n : Nat, n < 4294967296 → (BitVec.ofInt 32 (n : Int)).toNat = n := fun n hn => by rw [BitVec.ofInt_natCast, BitVec.toNat_ofNat, Nat.mod_eq_of_lt (by omega)]
  have h3 := congrArg BitVec.toNat h2
  rw [e1 _ (by omega), e1 _ (by omega)] at h3
  have h4 := congrArg (fun z => m ^^^ z) h3
  simp only [← Nat.xor_assoc, Nat.xor_self, Nat.zero_xor] at h4
  omega
end Go.Proofs.YtjpgpkkbmoehdaaDoor.Ra.Cm
