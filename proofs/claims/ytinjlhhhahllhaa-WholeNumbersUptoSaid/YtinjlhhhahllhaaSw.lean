/- leatlaw01.CursorThere. -/
import Derived.Test.YtinjlhhhahllhaaSv
namespace Go.Proofs.Ytinjlhhhahllhaa.Ra
open Go Go.RowKit
set_option linter.unusedVariables false
set_option linter.unusedSimpArgs false
set_option maxRecDepth 10000
/- The bytes of a number are read back. -/
theorem bes_snoc (x : Int) (n : Nat) : bes x (n + 1) = bes (x / 256) n ++ [x % 256] := by
  simp only [bes, List.range_succ, List.map_append, List.map_cons, List.map_nil]
  congr 1
  · apply List.map_congr_left
    intro i hi
    have hi' : i < n := List.mem_range.1 hi
    rw [Int.ediv_ediv_of_nonneg (by decide)]
    congr 2
    rw [show 8 * (n + 1 - 1 - i) = 8 * (n - 1 - i) + 8 by omega, Int.pow_add]
    omega
  · simp
theorem val_bes (n : Nat) : ∀ x : Int, 0 ≤ x → val (bes x n) = x % 256 ^ n := by
  induction n with
  | zero => intro x hx; simp [bes, val]
  | succ n ih =>
    intro x hx
    rw [bes_snoc, val_snoc, ih (x / 256) (by omega)]
    have h2 : x / 256 / 256 ^ n = x / (256 * 256 ^ n) := Int.ediv_ediv_of_nonneg (by decide)
    rw [Int.pow_succ, Int.mul_comm (256 ^ n) 256, Int.emod_def (x / 256), Int.emod_def x (256 * 256 ^ n), h2, Int.mul_assoc]
    generalize 256 ^ n * (x / (256 * 256 ^ n)) = t
    omega
theorem bes_by (x : Int) (n : Nat) : ∀ y ∈ bes x n, 0 ≤ y ∧ y < 256 := by
  intro y hy
  obtain ⟨i, _, rfl⟩ := List.mem_map.1 hy
  omega
theorem sval_bes (m : Nat) (v : Int) (hm : m < 8) (hv : -(128 * 256 ^ m) ≤ v ∧ v < 128 * 256 ^ m) : sval (bes (IntKind.u64.wrap v) (m + 1)) = v := by
  have h1 := sval_bound m (bes (IntKind.u64.wrap v) (m + 1)) (bes_len _ _) (bes_by _ _)
  have h2 := val_sval m (bes (IntKind.u64.wrap v) (m + 1)) (bes_len _ _)
  rw [val_bes _ _ (by rw [wrapU64]; omega)] at h2
  simp only [wrapU64] at h1 h2 ⊢
  have hp : (256 : Int) ^ (m + 1) ∣ 18446744073709551616 := by
    have : (18446744073709551616 : Int) = 256 ^ (m + 1) * 256 ^ (7 - m) := by rw [← Int.pow_add, show m + 1 + (7 - m) = 8 by omega]; rfl
    exact ⟨_, this⟩
  rw [Int.emod_emod_of_dvd _ hp] at h2
  have h3 : (256 : Int) ^ (m + 1) = 256 * 256 ^ m := by rw [Int.pow_succ, Int.mul_comm]
  have h4 := Int.emod_add_mul_ediv v (256 ^ (m + 1))
  have h5 : (0 : Int) < 256 ^ m := Int.pow_pos (by decide)
  rw [h3] at h2 h4
  generalize sval (bes (v % 18446744073709551616) (m + 1)) = s at *
  generalize (256 : Int) ^ m = p at *
  generalize hq : v / (256 * p) = q at *
  have h6 := Int.emod_nonneg v (show (256 * p : Int) ≠ 0 by omega)
  have h7 := Int.emod_lt_of_pos v (show (0 : Int) < 256 * p by omega)
  generalize v % (256 * p) = r at *
  have hq1 : q ≤ 0 := Int.not_lt.1 fun hlt => by
    have h8 : 256 * p * 1 ≤ 256 * p * q := Int.mul_le_mul_of_nonneg_left (by omega) (by omega)
    omega
  have hq2 : -1 ≤ q := Int.not_lt.1 fun hlt => by
    have h8 : 256 * p * q ≤ 256 * p * (-2) := Int.mul_le_mul_of_nonneg_left (by omega) (by omega)
    omega
  have hq3 : q = 0 ∨ q = -1 := by omega
  rcases hq3 with rfl | rfl
  · rw [Int.mul_zero] at h4
    omega
  · rw [Int.mul_neg, Int.mul_one] at h4
    omega
theorem cut_sval {v : Int} (n : Nat) (hn : n = 1 ∨ n = 2 ∨ n = 4 ∨ n = 8) (hv : -9223372036854775808 ≤ v ∧ v ≤ 9223372036854775807) : sval (bes (IntKind.u64.wrap (cutv v n)) n) = cutv v n := by
  rcases hn with rfl | rfl | rfl | rfl
  · refine sval_bes 0 _ (by omega) ?_
    simp only [cutv, Int.natCast_one, if_true, w8]
    simp [IntKind.wrap, IntKind.bits, IntKind.signed]; omega
  · refine sval_bes 1 _ (by omega) ?_
    rw [show cutv v ((2 : Nat) : Int) = IntKind.i16.wrap v by simp [cutv, w16]]
    simp [IntKind.wrap, IntKind.bits, IntKind.signed]; omega
  · refine sval_bes 3 _ (by omega) ?_
    rw [show cutv v ((4 : Nat) : Int) = IntKind.i32.wrap v by simp [cutv, w32]]
    simp [IntKind.wrap, IntKind.bits, IntKind.signed]; omega
  · refine sval_bes 7 _ (by omega) ?_
    rw [show cutv v ((8 : Nat) : Int) = v by simp [cutv]]
    simp; omega
def numO (o : OpT) : Prop := ∃ m : Nat, o.1 = m ∧ (m = 1 ∨ m = 2 ∨ m = 4 ∨ m = 8)
def encO (o : OpT) : List Int := if o.1 = 15 then o.2.2.2.headD [] else bes (IntKind.u64.wrap (cutv o.2.2.1 o.1)) o.1.toNat
def okO (o : OpT) : Prop := numO o ∨ (o.1 = 15 ∧ ∃ p, o.2.2.2 = [p])
theorem flat_at {α : Type} (f : α → List Int) (xs : List α) (k : Nat) (hk : k < xs.length) : ((xs.map f).flatten.drop ((xs.take k).map f).flatten.length).take (f xs[k]).length = f xs[k] := by
  have h : (xs.map f).flatten = ((xs.take k).map f).flatten ++ (f xs[k] ++ ((xs.drop (k + 1)).map f).flatten) := by
    have e : xs.map f = (xs.take k).map f ++ (f xs[k] :: (xs.drop (k + 1)).map f) := by
      rw [← List.map_cons, ← List.drop_eq_getElem_cons hk, ← List.map_append, List.take_append_drop]
    rw [e, List.flatten_append, List.flatten_cons]
  rw [h, List.drop_left, List.take_left]
theorem flat_step {α : Type} (f : α → List Int) (xs : List α) (k : Nat) (hk : k < xs.length) : ((xs.take (k + 1)).map f).flatten = ((xs.take k).map f).flatten ++ f xs[k] := by
  rw [List.take_succ_eq_append_getElem hk, List.map_append, List.flatten_append]
  simp
theorem litB1 {st : St} {K : Nat → Prop} {x : AV} {ys : List Int} (hl : RdB st K x ys) (id : Nat) : abuildSlice Try.prog 53 id 1 [(0, x)] = some (.sl id 0 1 1, ⟨[x], 23, true, id⟩) := litR1 hl id
theorem le_sum {α : Type} (f : α → Nat) (l : List α) (x : α) (h : x ∈ l) : f x ≤ (l.map f).sum := by
  induction l with
  | nil => cases h
  | cons y l ih =>
    rw [List.map_cons, List.sum_cons]
    rcases List.mem_cons.1 h with rfl | h
    · omega
    · have := ih h
      omega
theorem ops_part (os : List OpT) (o : OpT) (ho : o ∈ os) (p : List Int) (hp : p ∈ o.2.2.2) : p.length ≤ (os.map fun x : Int × Int × Int × List (List Int) => 1 + (1 + (1 + ((x.2.2.2.map fun xs : List Int => (xs.map fun _ => 1).sum + 1).sum + 1))) + 1).sum := by
  have h1 := le_sum (fun x : Int × Int × Int × List (List Int) => 1 + (1 + (1 + ((x.2.2.2.map fun xs : List Int => (xs.map fun _ => 1).sum + 1).sum + 1))) + 1) os o ho
  have h2 := le_sum (fun xs : List Int => (xs.map fun _ => 1).sum + 1) o.2.2.2 p hp
  simp only [sum_1] at h1 h2 ⊢
  omega
end Go.Proofs.Ytinjlhhhahllhaa.Ra
