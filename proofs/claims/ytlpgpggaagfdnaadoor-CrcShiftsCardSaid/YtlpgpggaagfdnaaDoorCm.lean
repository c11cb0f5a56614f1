/- The plain laws of the Castagnoli register: no program in sight. -/
namespace Go.Proofs.YtlpgpggaagfdnaaDoor.Cm

def P : BitVec 32 := 0x82F63B78#32

/-- One step of the register. -/
def step (s : BitVec 32) : BitVec 32 := if s.getLsbD 0 then (s >>> 1) ^^^ P else s >>> 1

theorem step_xor (a b : BitVec 32) : step (a ^^^ b) = step a ^^^ step b := by
  unfold step
  rw [BitVec.getLsbD_xor, BitVec.ushiftRight_xor_distrib]
  cases a.getLsbD 0 <;> cases b.getLsbD 0 <;> simp
  · rw [BitVec.xor_assoc]
  · rw [BitVec.xor_assoc, BitVec.xor_assoc, BitVec.xor_comm P]
  · rw [BitVec.xor_assoc (a >>> 1) P, ← BitVec.xor_assoc P, BitVec.xor_comm P, BitVec.xor_assoc (b >>> 1) P P]
    simp

def steps : Nat → BitVec 32 → BitVec 32
  | 0, s => s
  | n + 1, s => steps n (step s)

theorem steps_xor (n : Nat) (a b : BitVec 32) : steps n (a ^^^ b) = steps n a ^^^ steps n b := by
  induction n generalizing a b with
  | zero => rfl
  | succ n ih => simp only [steps, step_xor, ih]

theorem steps_add (m n : Nat) (s : BitVec 32) : steps (m + n) s = steps n (steps m s) := by
  induction m generalizing s with
  | zero => simp [steps]
  | succ m ih => rw [Nat.succ_add]; exact ih _

theorem steps_zero (n : Nat) : steps n 0#32 = 0#32 := by
  induction n with
  | zero => rfl
  | succ n ih => exact ih

/-- A step taken back. -/
def back (s : BitVec 32) : BitVec 32 := if s.getLsbD 31 then ((s ^^^ P) <<< 1) ||| 1#32 else s <<< 1


theorem back_step (s : BitVec 32) : back (step s) = s := by
  unfold back step
  apply BitVec.eq_of_getLsbD_eq
  intro i hi
  by_cases h : s.getLsbD 0
  · have hP : P.getLsbD 31 = true := by decide
    simp only [h, if_true, BitVec.getLsbD_xor, BitVec.getLsbD_ushiftRight, hP]
    have h32 : s.getLsbD (1 + 31) = false := BitVec.getLsbD_of_ge _ _ (by decide)
    simp only [h32, Bool.false_xor, if_true, BitVec.xor_assoc, BitVec.xor_self, BitVec.xor_zero]
    rw [BitVec.getLsbD_or, BitVec.getLsbD_shiftLeft]
    by_cases h0 : i = 0
    · subst h0; simp [h]
    · have h1 : 1 + (i - 1) = i := by omega
      simp [BitVec.getLsbD_ushiftRight, h1, h0, hi]
  · simp only [h]
    have h32 : s.getLsbD (1 + 31) = false := BitVec.getLsbD_of_ge _ _ (by decide)
    simp only [Bool.false_eq_true, if_false, BitVec.getLsbD_ushiftRight, h32]
    rw [BitVec.getLsbD_shiftLeft]
    by_cases h0 : i = 0
    · subst h0; simp at h; simp [h]
    · have h1 : 1 + (i - 1) = i := by omega
      simp [BitVec.getLsbD_ushiftRight, h1, h0, hi]


theorem step_back (s : BitVec 32) : step (back s) = s := by
  unfold back step
  apply BitVec.eq_of_getLsbD_eq
  intro i hi
  by_cases h : s.getLsbD 31
  · have h0 : (((s ^^^ P) <<< 1) ||| 1#32).getLsbD 0 = true := by simp
    simp only [h, if_true, h0, BitVec.getLsbD_xor, BitVec.getLsbD_ushiftRight]
    rw [BitVec.getLsbD_or, BitVec.getLsbD_shiftLeft]
    by_cases h31 : i = 31
    · subst h31; have hP : P.getLsbD 31 = true := by decide
      rw [h, hP]; simp
    · have h1 : 1 + i - 1 = i := by omega
      have h2 : 1 + i < 32 := by omega
      simp [h1, h2]
  · have h0 : (s <<< 1).getLsbD 0 = false := by simp
    simp only [h, Bool.false_eq_true, if_false, h0, BitVec.getLsbD_ushiftRight]
    rw [BitVec.getLsbD_shiftLeft]
    by_cases h31 : i = 31
    · subst h31; simp at h; simp [h]
    · have h1 : 1 + i - 1 = i := by omega
      have h2 : 1 + i < 32 := by omega
      simp [h1, h2]

def backs : Nat → BitVec 32 → BitVec 32
  | 0, s => s
  | n + 1, s => backs n (back s)

theorem backs_succ (n : Nat) (s : BitVec 32) : backs (n + 1) s = back (backs n s) := by
  induction n generalizing s with
  | zero => rfl
  | succ n ih => exact ih _
theorem steps_succ (n : Nat) (s : BitVec 32) : steps (n + 1) s = step (steps n s) := by
  induction n generalizing s with
  | zero => rfl
  | succ n ih => exact ih _
theorem steps_backs (n : Nat) (s : BitVec 32) : steps n (backs n s) = s := by
  induction n with
  | zero => rfl
  | succ n ih => rw [backs_succ]; simp only [steps]; rw [step_back, ih]
theorem backs_steps (n : Nat) (s : BitVec 32) : backs n (steps n s) = s := by
  induction n with
  | zero => rfl
  | succ n ih => rw [steps_succ]; simp only [backs]; rw [back_step, ih]
theorem steps_inj (n : Nat) {a b : BitVec 32} (h : steps n a = steps n b) : a = b := by
  rw [← backs_steps n a, h, backs_steps]


/-- Two that go by bits alike are alike. -/
theorem lin_ext (f g : BitVec 32 → BitVec 32) (hf : ∀ a b, f (a ^^^ b) = f a ^^^ f b) (hg : ∀ a b, g (a ^^^ b) = g a ^^^ g b) (h : ∀ j, j < 32 → f (1#32 <<< j) = g (1#32 <<< j)) (x : BitVec 32) : f x = g x := by
  have f0 : f 0#32 = 0#32 := by have := hf 0#32 0#32; simpa using this
  have g0 : g 0#32 = 0#32 := by have := hg 0#32 0#32; simpa using this
  have key : ∀ n, n ≤ 32 → ∀ y : BitVec 32, (∀ j, n ≤ j → y.getLsbD j = false) → f y = g y := by
    intro n
    induction n with
    | zero =>
      intro _ y hy
      have : y = 0#32 := BitVec.eq_of_getLsbD_eq fun i hi => by rw [hy i (Nat.zero_le _)]; simp
      rw [this, f0, g0]
    | succ n ih =>
      intro hn y hy
      by_cases hb : y.getLsbD n
      · have e : y = (y ^^^ (1#32 <<< n)) ^^^ (1#32 <<< n) := by rw [BitVec.xor_assoc, BitVec.xor_self, BitVec.xor_zero]
        rw [e, hf, hg, h n (by omega), ih (by omega) (y ^^^ (1#32 <<< n)) (fun j hj => ?_)]
        rw [BitVec.getLsbD_xor, BitVec.getLsbD_shiftLeft]
        by_cases hjn : j = n
        · subst hjn; simp [hb]; omega
        · rw [hy j (by omega)]
          simp; omega
      · exact ih (by omega) y fun j hj => by
          by_cases hjn : j = n
          · subst hjn; simpa using hb
          · exact hy j (by omega)
  exact key 32 (Nat.le_refl _) x fun j hj => BitVec.getLsbD_of_ge _ _ hj

theorem step_even {s : BitVec 32} (h : s.getLsbD 0 = false) : step s = s >>> 1 := by unfold step; rw [h]; rfl
/-- Low bits that are clear only move. -/
theorem steps_shift : ∀ (n : Nat) (s : BitVec 32), (∀ j, j < n → s.getLsbD j = false) → steps n s = s >>> n := by
  intro n
  induction n with
  | zero => intro s _; simp [steps]
  | succ n ih =>
    intro s h
    simp only [steps]
    rw [step_even (h 0 (by omega)), ih (s >>> 1) (fun j hj => by rw [BitVec.getLsbD_ushiftRight]; exact h _ (by omega)), ← BitVec.shiftRight_add, Nat.add_comm]

/-- n steps: the low n bits by themselves, the rest moved. -/
theorem steps_split (n : Nat) (s : BitVec 32) (m : BitVec 32) (hm : ∀ j, j < 32 → m.getLsbD j = decide (j < n)) : steps n s = (s >>> n) ^^^ steps n (s &&& m) := by
  have e : s = (s &&& ~~~m) ^^^ (s &&& m) := by
    apply BitVec.eq_of_getLsbD_eq
    intro i hi
    simp only [BitVec.getLsbD_xor, BitVec.getLsbD_and, BitVec.getLsbD_not, hi, decide_true, Bool.true_and]
    cases s.getLsbD i <;> cases m.getLsbD i <;> rfl
  have hs : steps n (s &&& ~~~m) = s >>> n := by
    rw [steps_shift n _ (fun j hj => ?_)]
    · apply BitVec.eq_of_getLsbD_eq
      intro i hi
      rw [BitVec.getLsbD_ushiftRight, BitVec.getLsbD_ushiftRight]
      by_cases h32 : n + i < 32
      · rw [BitVec.getLsbD_and, BitVec.getLsbD_not, hm _ h32]; simp [h32]
      · rw [BitVec.getLsbD_of_ge _ _ (by omega), BitVec.getLsbD_of_ge _ _ (by omega)]
    · by_cases h32 : j < 32
      · rw [BitVec.getLsbD_and, BitVec.getLsbD_not, hm _ h32]; simp [hj]
      · exact BitVec.getLsbD_of_ge _ _ (by omega)
  calc steps n s = steps n ((s &&& ~~~m) ^^^ (s &&& m)) := by rw [← e]
    _ = _ := by rw [steps_xor, hs]

/-- A register behind some bytes. -/
def reg (s : BitVec 32) (l : List Int) : BitVec 32 := l.foldl (fun s x => steps 8 (s ^^^ BitVec.ofInt 32 x)) s
theorem reg_append (s : BitVec 32) (a b : List Int) : reg s (a ++ b) = reg (reg s a) b := List.foldl_append ..
theorem reg_cons (s : BitVec 32) (x : Int) (l : List Int) : reg s (x :: l) = reg (steps 8 (s ^^^ BitVec.ofInt 32 x)) l := rfl
/-- The register's part and the bytes' part. -/
theorem reg_split (l : List Int) : ∀ s, reg s l = steps (8 * l.length) s ^^^ reg 0#32 l := by
  induction l with
  | nil => intro s; simp [reg, steps]
  | cons x l ih =>
    intro s
    rw [reg_cons, reg_cons, ih, ih (steps 8 (0#32 ^^^ BitVec.ofInt 32 x)), BitVec.zero_xor, steps_xor, steps_xor, ← steps_add, List.length_cons, show 8 * (l.length + 1) = 8 + 8 * l.length by omega, BitVec.xor_assoc]
def upd (c : BitVec 32) (l : List Int) : BitVec 32 := ~~~(reg (~~~c) l)
theorem upd_append (c : BitVec 32) (a b : List Int) : upd c (a ++ b) = upd (upd c a) b := by unfold upd; rw [reg_append, BitVec.not_not]

end Go.Proofs.YtlpgpggaagfdnaaDoor.Cm
