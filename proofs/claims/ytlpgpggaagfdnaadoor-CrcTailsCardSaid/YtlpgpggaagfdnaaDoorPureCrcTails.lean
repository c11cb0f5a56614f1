/- Tail's four bytes make the sum that is wanted, and are the only ones: for every sum, every wanted sum and every four bytes. -/
import Derived.Test.YtlpgpggaagfdnaaDoorStmtCrcTails
import Derived.Test.YtlpgpggaagfdnaaDoorPc
namespace Go.Proofs.YtlpgpggaagfdnaaDoor.CrcTails
open Go.RowKit Go.Proofs.YtlpgpggaagfdnaaDoorW.PrintWords Go.Proofs.YtlpgpggaagfdnaaDoor.Q Go.Proofs.YtlpgpggaagfdnaaDoor.Ev Go.Proofs.YtlpgpggaagfdnaaDoor.Pv Go.Proofs.YtlpgpggaagfdnaaDoor.Cm
theorem bo (x y : Int) : Go.bits .or .u32 x y = num (BitVec.ofInt 32 x ||| BitVec.ofInt 32 y) := wrap_num _
theorem dbl (a : BitVec 32) : num a * (2 : Int) % (4294967296 : Int) = num (a <<< 1) := by
  unfold num; rw [BitVec.toNat_shiftLeft, Nat.shiftLeft_eq]; omega
theorem top_bit (a : BitVec 32) : (Go.bits .and .u32 (num a) 2147483648 = 0) ↔ a.getLsbD 31 = false := by
  rw [ba, ofInt_num, show BitVec.ofInt 32 2147483648 = BitVec.twoPow 32 31 from by decide]
  constructor
  · intro h
    have h0 : a &&& BitVec.twoPow 32 31 = 0#32 := num_inj (h.trans (by decide))
    have := congrArg (fun z => z.getLsbD 31) h0
    simpa [BitVec.getLsbD_and, BitVec.getLsbD_twoPow] using this
  · intro h
    have : a &&& BitVec.twoPow 32 31 = 0#32 := by
      apply BitVec.eq_of_getLsbD_eq
      intro i hi
      rw [BitVec.getLsbD_and, BitVec.getLsbD_twoPow]
      by_cases h31 : i = 31
      · subst h31; rw [h]; simp
      · simp; omega
    rw [this]; decide
def tailB (c want : BitVec 32) : BitVec 32 := backs 32 (~~~want) ^^^ ~~~c
def four (t : BitVec 32) : Int × Int × Int × Int := (num t % 256, num t / 256 % 256, num t / 65536 % 256, num t / 16777216 % 256)
theorem tail_l0 (c : BitVec 32) : ∀ (n j : Nat) (s : BitVec 32), n + j = 32 → Ev (fun k => crc_Tail.l0 k (num c) (num s) j) (four (backs n s ^^^ ~~~c)) := by
  intro n
  induction n with
  | zero =>
    intro j s hj
    refine succ ?_
    simp only [crc_Tail.l0]
    refine neg (by omega) ?_
    rw [xor_max, xor_num]
    exact Ev.now _
  | succ n ih =>
    intro j s hj
    refine succ ?_
    simp only [crc_Tail.l0]
    rw [w64 (by omega) (by omega), show (2197175160 : Int) = num P from rfl, xor_num, dbl, dbl]
    refine pos (by omega) ?_
    have hb : backs (n + 1) s = backs n (Cm.back s) := rfl
    rw [hb]
    by_cases h : s.getLsbD 31
    · refine neg (fun e => by rw [(top_bit s).1 e] at h; cases h) ?_
      have e : Go.bits .or .u32 (num ((s ^^^ P) <<< 1)) 1 = num (Cm.back s) := by
        rw [bo, ofInt_num]; unfold Cm.back; rw [if_pos h]; rfl
      rw [e]
      exact ih (j + 1) _ (by omega)
    · refine pos ((top_bit s).2 (by simpa using h)) ?_
      have e : num (s <<< 1) = num (Cm.back s) := by unfold Cm.back; rw [if_neg h]
      rw [e]
      exact ih (j + 1) _ (by omega)
theorem tail_ev (c want : BitVec 32) : Ev (fun k => crc_Tail.f k (num c) (num want)) (four (tailB c want)) := by
  unfold crc_Tail.f
  rw [xor_max]
  exact tail_l0 c 32 0 _ (by omega)

/-- The byte k of a register. -/
def B (k : Nat) (t : BitVec 32) : BitVec 32 := (t >>> (8 * k)) &&& 255#32
theorem B_xor (k : Nat) (a b : BitVec 32) : B k (a ^^^ b) = B k a ^^^ B k b := by
  unfold B
  rw [BitVec.ushiftRight_xor_distrib]
  generalize a >>> (8 * k) = x
  generalize b >>> (8 * k) = y
  apply BitVec.eq_of_getLsbD_eq
  intro i hi
  simp only [BitVec.getLsbD_xor, BitVec.getLsbD_and]
  cases x.getLsbD i <;> cases y.getLsbD i <;> cases (255#32).getLsbD i <;> rfl
def fourB (t : BitVec 32) : BitVec 32 := steps 32 (B 0 t) ^^^ steps 24 (B 1 t) ^^^ steps 16 (B 2 t) ^^^ steps 8 (B 3 t)
theorem gen4 (a b c d v w x y : BitVec 32) : (a ^^^ v) ^^^ (b ^^^ w) ^^^ (c ^^^ x) ^^^ (d ^^^ y) = (a ^^^ b ^^^ c ^^^ d) ^^^ (v ^^^ w ^^^ x ^^^ y) := by ac_rfl
theorem fourB_eq (t : BitVec 32) : fourB t = steps 32 t := by
  refine lin_ext fourB (steps 32) (fun a b => by unfold fourB; simp only [B_xor, steps_xor, gen4]) (steps_xor _) (fun j hj => ?_) t
  have : ∀ j : Fin 32, fourB (1#32 <<< j.val) = steps 32 (1#32 <<< j.val) := by decide +kernel
  exact this ⟨j, hj⟩
theorem ofInt_byte (t : BitVec 32) (k : Nat) (x : Int) (hx : x = ((t.toNat / 2 ^ (8 * k) % 256 : Nat) : Int)) : BitVec.ofInt 32 x = B k t := by
  subst hx
  unfold B
  rw [BitVec.ofInt_natCast]
  apply BitVec.eq_of_toNat_eq
  rw [BitVec.toNat_and, BitVec.toNat_ofNat, BitVec.toNat_ushiftRight, Nat.shiftRight_eq_div_pow, show (255#32).toNat = 2 ^ 8 - 1 from rfl, Nat.and_two_pow_sub_one_eq_mod, Nat.mod_eq_of_lt (by omega)]
theorem reg_four (s t : BitVec 32) : reg s [(four t).1, (four t).2.1, (four t).2.2.1, (four t).2.2.2] = steps 32 (s ^^^ t) := by
  simp only [reg, List.foldl_cons, List.foldl_nil, steps_xor, ← steps_add]
  rw [ofInt_byte t 0 (four t).1 (by simp [four, num]), ofInt_byte t 1 (four t).2.1 (by simp [four, num]), ofInt_byte t 2 (four t).2.2.1 (by simp [four, num]), ofInt_byte t 3 (four t).2.2.2 (by simp [four, num])]
  rw [← fourB_eq t]
  unfold fourB
  simp only [BitVec.xor_assoc]
theorem four_bytes (t : BitVec 32) : Pv.bytes [(four t).1, (four t).2.1, (four t).2.2.1, (four t).2.2.2] := by
  have := num_range t
  intro x hx
  simp [four] at hx
  omega
theorem upd_four (c t : BitVec 32) : upd c [(four t).1, (four t).2.1, (four t).2.2.1, (four t).2.2.2] = ~~~(steps 32 (~~~c ^^^ t)) := by unfold upd; rw [reg_four]
theorem join4 (a b c d : Int) (ha : 0 ≤ a ∧ a ≤ 255) (hb : 0 ≤ b ∧ b ≤ 255) (hc : 0 ≤ c ∧ c ≤ 255) (hd : 0 ≤ d ∧ d ≤ 255) : four (BitVec.ofInt 32 (a + 256 * b + 65536 * c + 16777216 * d)) = (a, b, c, d) := by
  unfold four
  rw [num_ofInt (by omega) (by omega)]
  refine Prod.ext ?_ (Prod.ext ?_ (Prod.ext ?_ ?_)) <;> simp only <;> omega

theorem pure : small := by
  intro c hc want hwant a ha b hb e he d hd
  have hc2 : num (BitVec.ofInt 32 c) = c := num_ofInt (by simp [Lit.wf, IntKind.min, IntKind.max, IntKind.bits, IntKind.signed] at hc; omega) (by simp [Lit.wf, IntKind.min, IntKind.max, IntKind.bits, IntKind.signed] at hc; omega)
  have hw2 : num (BitVec.ofInt 32 want) = want := num_ofInt (by simp [Lit.wf, IntKind.min, IntKind.max, IntKind.bits, IntKind.signed] at hwant; omega) (by simp [Lit.wf, IntKind.min, IntKind.max, IntKind.bits, IntKind.signed] at hwant; omega)
  rw [← hc2, ← hw2]
  generalize BitVec.ofInt 32 c = C
  generalize BitVec.ofInt 32 want = V
  have hj := join4 a b e d (wf_u8 ha) (wf_u8 hb) (wf_u8 he) (wf_u8 hd)
  generalize BitVec.ofInt 32 (a + 256 * b + 65536 * e + 16777216 * d) = T at hj
  refine Ev.rounds (r := true) ?_
  unfold leatlaw03_CrcTails.f
  have h0 := tail_ev 0#32 (BitVec.allOnes 32)
  rw [show num 0#32 = 0 from rfl, show num (BitVec.allOnes 32) = 4294967295 from rfl, show four (tailB 0#32 (BitVec.allOnes 32)) = (255, 255, 255, 255) by decide +kernel] at h0
  refine Ev.bind alive_ev (pos rfl (Ev.bind h0 ?_))
  rw [show (!((255 : Int) == 255) || (!((255 : Int) == 255) || (!((255 : Int) == 255) || (!((255 : Int) == 255))))) = false by decide]
  refine succ ?_
  simp only [leatlaw03_CrcTails.j0]
  refine neg (by decide) (Ev.bind (tail_ev C V) (Ev.bind (Update_ev C _ (four_bytes _)) ?_))
  have e1 : upd C [(four (tailB C V)).1, (four (tailB C V)).2.1, (four (tailB C V)).2.2.1, (four (tailB C V)).2.2.2] = V := by
    rw [upd_four]
    unfold tailB
    rw [BitVec.xor_comm, BitVec.xor_assoc, BitVec.xor_self, BitVec.xor_zero, steps_backs, BitVec.not_not]
  rw [e1]
  have hT : [a, b, e, d] = [(four T).1, (four T).2.1, (four T).2.2.1, (four T).2.2.2] := by rw [hj]
  rw [hT]
  refine pos rfl (Ev.bind (Update_ev C _ (four_bytes T)) (Ev.bind (tail_ev C _) ?_))
  have e2 : tailB C (upd C [(four T).1, (four T).2.1, (four T).2.2.1, (four T).2.2.2]) = T := by
    rw [upd_four]
    unfold tailB
    rw [BitVec.not_not, backs_steps, BitVec.xor_comm (~~~C) T, BitVec.xor_assoc, BitVec.xor_self, BitVec.xor_zero]
  rw [e2, hj]
  simpa using Ev.now true
end Go.Proofs.YtlpgpggaagfdnaaDoor.CrcTails
