/- What the printed functions of layer 3 come to, by the plain register. -/
import Derived.Test.YtlpgpggaagfdnaaDoorPl
import Derived.Test.YtlpgpggaagfdnaaDoorCm
import Derived.Test.YtlpgpggaagfdnaaDoorQx3
import Derived.Test.YtlpgpggaagfdnaaDoorQx4
namespace Go.Proofs.YtlpgpggaagfdnaaDoor.Pv
open Go.RowKit Go.Proofs.YtlpgpggaagfdnaaDoorW.PrintWords Go.Proofs.YtlpgpggaagfdnaaDoor.Q Go.Proofs.YtlpgpggaagfdnaaDoor.Ev Go.Proofs.YtlpgpggaagfdnaaDoor.Cm

/-- A register's number. -/
def num (b : BitVec 32) : Int := (b.toNat : Int)
theorem num_range (b : BitVec 32) : 0 ≤ num b ∧ num b ≤ 4294967295 := by have := b.isLt; unfold num; omega
theorem num_inj {a b : BitVec 32} (h : num a = num b) : a = b := by unfold num at h; exact BitVec.eq_of_toNat_eq (by omega)
theorem ofInt_num (b : BitVec 32) : BitVec.ofInt 32 (num b) = b := by unfold num; rw [BitVec.ofInt_natCast, BitVec.ofNat_toNat, BitVec.setWidth_eq]
theorem num_ofInt {x : Int} (h0 : 0 ≤ x) (h1 : x ≤ 4294967295) : num (BitVec.ofInt 32 x) = x := by
  unfold num
  obtain ⟨n, rfl⟩ := Int.eq_ofNat_of_zero_le h0
  rw [BitVec.ofInt_natCast, BitVec.toNat_ofNat, Nat.mod_eq_of_lt (by omega)]
theorem wrap_num (b : BitVec 32) : IntKind.u32.wrap ((b.toNat : Nat) : Int) = num b := by have := b.isLt; unfold num; rw [IntKind.wrap_u32]; omega
theorem bx (x y : Int) : Go.bits .xor .u32 x y = num (BitVec.ofInt 32 x ^^^ BitVec.ofInt 32 y) := wrap_num _
theorem ba (x y : Int) : Go.bits .and .u32 x y = num (BitVec.ofInt 32 x &&& BitVec.ofInt 32 y) := wrap_num _
theorem xor_num (a b : BitVec 32) : Go.bits .xor .u32 (num a) (num b) = num (a ^^^ b) := by rw [bx, ofInt_num, ofInt_num]
theorem xor_max (a : BitVec 32) : Go.bits .xor .u32 IntKind.u32.max (num a) = num (~~~a) := by
  rw [bx, ofInt_num, show BitVec.ofInt 32 IntKind.u32.max = BitVec.allOnes 32 from by decide, BitVec.allOnes_xor]
theorem xor_max' (a : BitVec 32) : Go.bits .xor .u32 (num a) 4294967295 = num (~~~a) := by
  rw [bx, ofInt_num, show BitVec.ofInt 32 4294967295 = BitVec.allOnes 32 from by decide, BitVec.xor_comm, BitVec.allOnes_xor]
theorem div_num (a : BitVec 32) (k : Nat) : num a / 2 ^ k = num (a >>> k) := by
  unfold num; rw [BitVec.toNat_ushiftRight, Nat.shiftRight_eq_div_pow]; simp
theorem low_num (a : BitVec 32) : num a % 2 = if a.getLsbD 0 then 1 else 0 := by
  unfold num
  rw [← BitVec.testBit_toNat, Nat.testBit_zero]
  by_cases h : a.toNat % 2 = 1
  · simp [h]; omega
  · simp [h]; omega

theorem step_eq (a : BitVec 32) : leatref03_step.f (num a) = some (num (Cm.step a)) := by
  unfold leatref03_step.f
  have hr := num_range a
  rw [Int.tmod_eq_emod_of_nonneg hr.1, Int.tdiv_eq_ediv_of_nonneg hr.1, low_num, Int.emod_eq_of_lt (a := num a / 2) (b := 4294967296) (by omega) (by omega)]
  have h2 : num a / (2 : Int) = num (a >>> 1) := by have := div_num a 1; simpa using this
  rw [h2]
  unfold Cm.step
  cases h : a.getLsbD 0
  · simp
  · simp only [if_true]
    rw [show (2197175160 : Int) = num P from rfl, xor_num]
theorem step_ev (a : BitVec 32) : Ev (fun _ => leatref03_step.f (num a)) (num (Cm.step a)) := const (step_eq a)

theorem rd_rows : ∀ i : Fin 16, rd crcRows (i.val : Int) = num (steps 4 (BitVec.ofNat 32 i.val)) := by decide +kernel
theorem nib_eq (a : BitVec 32) : crcNib (num a) = num (steps 4 a) := by
  unfold crcNib
  have h15 : Go.bits .and .u32 (num a) 15 = ((a &&& 15#32).toNat : Int) := by rw [ba, ofInt_num]; rfl
  have hlt : (a &&& 15#32).toNat < 16 := by
    rw [BitVec.toNat_and]; exact Nat.lt_of_le_of_lt Nat.and_le_right (by decide)
  have hd : num a / (16 : Int) = num (a >>> 4) := by have := div_num a 4; simpa using this
  rw [h15, hd, rd_rows ⟨_, hlt⟩, xor_num, steps_split 4 a 15#32 (fun j hj => by
    have : ∀ j : Fin 32, (15#32).getLsbD j.val = decide (j.val < 4) := by decide
    exact this ⟨j, hj⟩), BitVec.ofNat_toNat, BitVec.setWidth_eq]
theorem byte_eq (a : BitVec 32) {x : Int} (h0 : 0 ≤ x) (h1 : x ≤ 255) : crcByte (num a) x = num (steps 8 (a ^^^ BitVec.ofInt 32 x)) := by
  unfold crcByte
  rw [Int.emod_eq_of_lt h0 (by omega), ← num_ofInt h0 (show x ≤ 4294967295 by omega), xor_num, nib_eq, nib_eq, ← steps_add, ofInt_num]
theorem fold_eq (l : List Int) (hb : Pv.bytes l) : ∀ a, l.foldl crcByte (num a) = num (reg a l) := by
  induction l with
  | nil => intro a; rfl
  | cons x l ih =>
    intro a
    have hx := hb x (List.mem_cons_self ..)
    rw [List.foldl_cons, byte_eq a hx.1 hx.2, ih (fun y hy => hb y (List.mem_cons_of_mem _ hy)), reg_cons]
theorem Update_eq (c : BitVec 32) (l : List Int) (hb : Pv.bytes l) : crc_Update.f (num c) l = some (num (upd c l)) := by
  unfold crc_Update.f
  rw [xor_max, fold_eq l hb, xor_max]; rfl
theorem Update_ev (c : BitVec 32) (l : List Int) (hb : Pv.bytes l) : Ev (fun _ => crc_Update.f (num c) l) (num (upd c l)) := const (Update_eq c l hb)

/-- A row of rows, each of bytes. -/
def rows (ls : List (List Int)) : Prop := ∀ l ∈ ls, Pv.bytes l
theorem rdL_at (ls : List (List Int)) (i : Nat) (h : i < ls.length) : rd_L2 ls (i : Int) = ls[i] := by unfold rd_L2; simp [List.getD_eq_getElem?_getD, h]
theorem Sum_l0 (ls : List (List Int)) (hb : rows ls) (hl : ls.length ≤ 9223372036854775806) : ∀ (n i : Nat) (c : BitVec 32), n + i = ls.length → Ev (fun k => crc_Sum.l0 k (num c) ls ls.length i) (num (upd c (ls.drop i).flatten)) := by
  intro n
  induction n with
  | zero =>
    intro i c hi
    refine succ ?_
    simp only [crc_Sum.l0]
    refine neg (by omega) ?_
    rw [List.drop_of_length_le (by omega)]
    simpa [upd, reg] using Ev.now (num c)
  | succ n ih =>
    intro i c hi
    have hx : i < ls.length := by omega
    refine succ ?_
    simp only [crc_Sum.l0]
    refine pos (by omega) (pos (by omega) (pos (by omega) ?_))
    rw [rdL_at ls i hx, List.drop_eq_getElem_cons hx, List.flatten_cons, upd_append, w64 (by omega) (by omega)]
    exact Ev.bind (Update_ev c _ (hb _ (List.getElem_mem hx))) (ih (i + 1) _ (by omega))
/-- The sum of some bytes. -/
def crc (l : List Int) : BitVec 32 := upd 0#32 l
theorem Sum_ev (ls : List (List Int)) (hb : rows ls) (hl : ls.length ≤ 9223372036854775806) : Ev (fun k => crc_Sum.f k ls) (num (crc ls.flatten)) := by
  have := Sum_l0 ls hb hl ls.length 0 0#32 (by omega)
  rw [List.drop_zero] at this
  exact this
theorem alive_ev : Ev (fun k => leatlaw03_alive.f k) true := by
  unfold leatlaw03_alive.f
  refine Ev.bind (Sum_ev _ (by intro l hl x hx; simp at hl; rcases hl with rfl | rfl <;> (simp at hx; omega)) (by decide)) ?_
  refine pos (by decide +kernel) (Ev.bind (Sum_ev [] (by intro l hl; cases hl) (by decide)) ?_)
  rw [show (num (crc ([] : List (List Int)).flatten) == 0) = true from by decide +kernel]
  exact Ev.now _

/- the reference -/
theorem rUpdate_l1 (l : List Int) (i : Int) (r : Int) : ∀ (n j : Nat) (s : BitVec 32), n + j = 8 → Ev (fun k => leatref03_Update.l0 k l (num (steps n s)) (wrap64 (i + 1))) r → Ev (fun k => leatref03_Update.l1 k l (num s) i j) r := by
  intro n
  induction n with
  | zero =>
    intro j s hj h
    refine succ ?_
    simp only [leatref03_Update.l1]
    exact neg (by omega) h
  | succ n ih =>
    intro j s hj h
    refine succ ?_
    simp only [leatref03_Update.l1]
    refine pos (by omega) (Ev.bind (step_ev s) ?_)
    rw [w64 (by omega) (by omega)]
    exact ih (j + 1) (Cm.step s) (by omega) h
theorem rUpdate_l0 (l : List Int) (hb : Pv.bytes l) (hl : l.length ≤ 9223372036854775806) : ∀ (n i : Nat) (s : BitVec 32), n + i = l.length → Ev (fun k => leatref03_Update.l0 k l (num s) i) (num (~~~(reg s (l.drop i)))) := by
  intro n
  induction n with
  | zero =>
    intro i s hi
    refine succ ?_
    simp only [leatref03_Update.l0]
    refine neg (by omega) ?_
    rw [List.drop_of_length_le (by omega), xor_max']
    exact Ev.now _
  | succ n ih =>
    intro i s hi
    have hx : i < l.length := by omega
    have hc := hb _ (List.getElem_mem hx)
    refine succ ?_
    simp only [leatref03_Update.l0]
    refine pos (by omega) (pos (by omega) ?_)
    rw [rd_at l i hx, List.drop_eq_getElem_cons hx, reg_cons, Int.emod_eq_of_lt hc.1 (by omega), ← num_ofInt hc.1 (show l[i] ≤ 4294967295 by omega), xor_num, ofInt_num]
    refine rUpdate_l1 l i _ 8 0 _ (by omega) ?_
    rw [w64 (by omega) (by omega)]
    exact ih (i + 1) _ (by omega)
theorem rUpdate_ev (c : BitVec 32) (l : List Int) (hb : Pv.bytes l) (hl : l.length ≤ 9223372036854775806) : Ev (fun k => leatref03_Update.f k (num c) l) (num (upd c l)) := by
  unfold leatref03_Update.f
  rw [xor_max']
  have := rUpdate_l0 l hb hl l.length 0 (~~~c) (by omega)
  rw [List.drop_zero] at this
  exact this
theorem rSum_ev (l : List Int) (hb : Pv.bytes l) (hl : l.length ≤ 9223372036854775806) : Ev (fun k => leatref03_Sum.f k l) (num (crc l)) :=
  Ev.bind (rUpdate_ev 0#32 l hb hl) (Ev.now _)
theorem rRow_l0 : ∀ (n j : Nat) (s : BitVec 32), n + j = 4 → Ev (fun k => leatref03_Row.l0 k (num s) j) (num (steps n s)) := by
  intro n
  induction n with
  | zero =>
    intro j s hj
    refine succ ?_
    simp only [leatref03_Row.l0]
    exact neg (by omega) (Ev.now _)
  | succ n ih =>
    intro j s hj
    refine succ ?_
    simp only [leatref03_Row.l0]
    refine pos (by omega) (Ev.bind (step_ev s) ?_)
    rw [w64 (by omega) (by omega)]
    exact ih (j + 1) (Cm.step s) (by omega)
theorem rRow_ev (i : Int) (h0 : 0 ≤ i) (h1 : i ≤ 15) : Ev (fun k => leatref03_Row.f k i) (rd crcRows i) := by
  obtain ⟨n, rfl⟩ := Int.eq_ofNat_of_zero_le h0
  unfold leatref03_Row.f
  have := rRow_l0 4 0 (BitVec.ofNat 32 n) (by omega)
  rw [← rd_rows ⟨n, by omega⟩] at this
  have e : num (BitVec.ofNat 32 n) = (n : Int) % 4294967296 := by unfold num; rw [BitVec.toNat_ofNat]; omega
  rw [e] at this
  exact this
end Go.Proofs.YtlpgpggaagfdnaaDoor.Pv
