/- The register by powers: the product of two registers as polynomials. -/
import Derived.Test.YtlpgpggaagfdnaaDoorCm
namespace Go.Proofs.YtlpgpggaagfdnaaDoor.Cm

/-- The product's rounds. -/
def tl : Nat → BitVec 32 → BitVec 32 → BitVec 32 → BitVec 32
  | 0, _, _, out => out
  | n + 1, a, b, out => tl n (a <<< 1) (step b) (if a.getLsbD 31 then out ^^^ b else out)

theorem tl_out : ∀ (n : Nat) (a b out : BitVec 32), tl n a b out = out ^^^ tl n a b 0#32
  | 0, _, _, out => by simp [tl]
  | n + 1, a, b, out => by
    simp only [tl]
    rw [tl_out n (a <<< 1) (step b) (if a.getLsbD 31 then out ^^^ b else out), tl_out n (a <<< 1) (step b) (if a.getLsbD 31 then 0#32 ^^^ b else 0#32)]
    cases a.getLsbD 31 <;> simp [BitVec.xor_assoc]
theorem xor_swap (a b c d : BitVec 32) : (a ^^^ b) ^^^ (c ^^^ d) = (a ^^^ c) ^^^ (b ^^^ d) := by
  apply BitVec.eq_of_getLsbD_eq
  intro i hi
  simp only [BitVec.getLsbD_xor]
  cases a.getLsbD i <;> cases b.getLsbD i <;> cases c.getLsbD i <;> cases d.getLsbD i <;> rfl
theorem tl_left : ∀ (n : Nat) (a a' b : BitVec 32), tl n (a ^^^ a') b 0#32 = tl n a b 0#32 ^^^ tl n a' b 0#32
  | 0, _, _, _ => by simp [tl]
  | n + 1, a, a', b => by
    simp only [tl]
    rw [tl_out n ((a ^^^ a') <<< 1), tl_out n (a <<< 1), tl_out n (a' <<< 1), BitVec.shiftLeft_xor_distrib, tl_left n, BitVec.getLsbD_xor]
    rw [xor_swap]
    congr 1
    cases a.getLsbD 31 <;> cases a'.getLsbD 31 <;> simp
theorem tl_right : ∀ (n : Nat) (a b b' : BitVec 32), tl n a (b ^^^ b') 0#32 = tl n a b 0#32 ^^^ tl n a b' 0#32
  | 0, _, _, _ => by simp [tl]
  | n + 1, a, b, b' => by
    simp only [tl]
    rw [tl_out n (a <<< 1) (step (b ^^^ b')), tl_out n (a <<< 1) (step b), tl_out n (a <<< 1) (step b'), step_xor, tl_right n, xor_swap]
    congr 1
    cases a.getLsbD 31 <;> simp
theorem step_zero : step 0#32 = 0#32 := by decide
theorem tl_step : ∀ (n : Nat) (a b : BitVec 32), tl n a (step b) 0#32 = step (tl n a b 0#32)
  | 0, _, _ => by simp [tl, step_zero]
  | n + 1, a, b => by
    simp only [tl]
    rw [tl_out n (a <<< 1) (step (step b)), tl_out n (a <<< 1) (step b), tl_step n, step_xor]
    congr 1
    cases a.getLsbD 31 <;> simp [step_zero]

def T (a b : BitVec 32) : BitVec 32 := tl 32 a b 0#32
/-- One. -/
def one : BitVec 32 := 0x80000000#32
theorem T_steps (n : Nat) (a b : BitVec 32) : T a (steps n b) = steps n (T a b) := by
  induction n generalizing b with
  | zero => rfl
  | succ n ih => simp only [steps]; rw [ih]; unfold T; rw [tl_step]
theorem T_one (a : BitVec 32) : T a one = a := by
  refine lin_ext (fun a => T a one) (fun a => a) (fun a b => tl_left 32 a b one) (fun _ _ => rfl) (fun j hj => ?_) a
  have : ∀ j : Fin 32, T (1#32 <<< j.val) one = 1#32 <<< j.val := by decide +kernel
  exact this ⟨j, hj⟩
theorem basis (j : Nat) (hj : j < 32) : 1#32 <<< j = steps (31 - j) one := by
  have : ∀ j : Fin 32, 1#32 <<< j.val = steps (31 - j.val) one := by decide +kernel
  exact this ⟨j, hj⟩
/-- A power by anything. -/
theorem T_pow (i : Nat) (b : BitVec 32) : T (steps i one) b = steps i b := by
  refine lin_ext (fun b => T (steps i one) b) (fun b => steps i b) (fun a b => tl_right 32 _ a b) (fun a b => steps_xor i a b) (fun j hj => ?_) b
  show T (steps i one) (1#32 <<< j) = steps i (1#32 <<< j)
  rw [basis j hj, T_steps, T_one, ← steps_add, ← steps_add, Nat.add_comm]
theorem eighth : (0x00800000#32 : BitVec 32) = steps 8 one := by decide +kernel

/-- The sum of two texts. -/
def lk (a b : BitVec 32) (n : Nat) : BitVec 32 := steps (8 * n) a ^^^ b
theorem not_xor (a : BitVec 32) : ~~~a = a ^^^ BitVec.allOnes 32 := by rw [BitVec.xor_allOnes]
theorem upd_lk (a : BitVec 32) (l : List Int) : upd a l = lk a (upd 0#32 l) l.length := by
  unfold lk upd
  rw [reg_split l (~~~a), reg_split l (~~~0#32), not_xor a, steps_xor, not_xor (steps (8 * l.length) a ^^^ _ ^^^ _), not_xor (steps (8 * l.length) (~~~0#32) ^^^ _), show (~~~0#32 : BitVec 32) = BitVec.allOnes 32 from by decide]
  simp only [BitVec.xor_assoc]
end Go.Proofs.YtlpgpggaagfdnaaDoor.Cm
