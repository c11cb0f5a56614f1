/- press: plain laws of the greedy search. -/
import Derived.Test.YthjfncppiffnmaaDoorTa
namespace Go.Proofs.YthjfncppiffnmaaDoor.Ra.Pn
open Go Go.RowKit
set_option linter.unusedVariables false
set_option linter.unusedSimpArgs false
/-- How many bytes from p and from i on are alike, m at most. -/
def lcp (b : List Int) : Nat → Nat → Nat → Nat
  | 0, _, _ => 0
  | m + 1, p, i => if i < b.length ∧ b.getD p 0 = b.getD i 0 then lcp b m (p + 1) (i + 1) + 1 else 0
theorem lcp_le (b : List Int) : ∀ m p i, lcp b m p i ≤ m := by
  intro m
  induction m with
  | zero => intro p i; exact Nat.le_refl _
  | succ m ih =>
    intro p i
    rw [lcp]
    split
    · have := ih (p + 1) (i + 1); omega
    · omega
theorem lcp_in (b : List Int) : ∀ m p i, i ≤ b.length → i + lcp b m p i ≤ b.length := by
  intro m
  induction m with
  | zero => intro p i h; rw [lcp]; omega
  | succ m ih =>
    intro p i h
    rw [lcp]
    split
    · have := ih (p + 1) (i + 1) (by omega); omega
    · omega
theorem lcp_eq (b : List Int) : ∀ m p i k, k < lcp b m p i → b.getD (p + k) 0 = b.getD (i + k) 0 := by
  intro m
  induction m with
  | zero => intro p i k h; rw [lcp] at h; omega
  | succ m ih =>
    intro p i k h
    rw [lcp] at h
    split at h
    · rename_i h1
      cases k with
      | zero => exact h1.2
      | succ k =>
        have := ih (p + 1) (i + 1) k (by omega)
        rw [show p + 1 + k = p + (k + 1) by omega, show i + 1 + k = i + (k + 1) by omega] at this
        exact this
    · omega
theorem lcp_stop (b : List Int) : ∀ m p i, lcp b m p i < m → i + lcp b m p i < b.length → b.getD (p + lcp b m p i) 0 ≠ b.getD (i + lcp b m p i) 0 := by
  intro m
  induction m with
  | zero => intro p i h; rw [lcp] at h; omega
  | succ m ih =>
    intro p i h h2
    rw [lcp] at h h2 ⊢
    split
    · rename_i h1
      rw [if_pos h1] at h h2
      have := ih (p + 1) (i + 1) (by omega) (by omega)
      rw [show p + 1 + lcp b m (p + 1) (i + 1) = p + (lcp b m (p + 1) (i + 1) + 1) by omega, show i + 1 + lcp b m (p + 1) (i + 1) = i + (lcp b m (p + 1) (i + 1) + 1) by omega] at this
      exact this
    · rename_i h1
      rw [if_neg h1] at h2
      intro h3
      exact h1 ⟨by omega, h3⟩
/-- The best copy among the places below p, d candidates at most; r is the best so far. -/
def bst (b : List Int) (i : Nat) : Nat → Int → Nat × Nat → Nat × Nat
  | 0, _, r => r
  | p + 1, d, r => if i ≤ p + 4096 ∧ 0 < d then (if 4 ≤ lcp b 131 p i then bst b i p (d - 1) (if r.2 < lcp b 131 p i then (i - p, lcp b 131 p i) else r) else bst b i p d r) else r
theorem bst_stop (b : List Int) (i p q : Nat) (d : Int) (r : Nat × Nat) (h : ¬ (i ≤ p + 4096 ∧ 0 < d)) (hq : q ≤ p + 1) : bst b i q d r = r := by
  cases q with
  | zero => rfl
  | succ q => rw [bst, if_neg (by omega)]
theorem bst_skip (b : List Int) (i p' : Nat) (d : Int) (r : Nat × Nat) : ∀ p, p' ≤ p → (∀ q, p' ≤ q → q < p → lcp b 131 q i < 4) → bst b i p d r = bst b i p' d r := by
  intro p
  induction p with
  | zero =>
    intro h _
    have h0 : p' = 0 := by omega
    rw [h0]
  | succ p ih =>
    intro h hq
    by_cases hp : p' = p + 1
    · subst hp; rfl
    · rw [bst]
      split
      · rw [if_neg (by have := hq p (by omega) (by omega); omega)]
        exact ih (by omega) (fun q h1 h2 => hq q h1 (by omega))
      · rename_i h1
        exact (bst_stop b i p p' d r h1 (by omega)).symm
/-- What a search that answers something tells. -/
theorem bst_ok (b : List Int) (i : Nat) : ∀ p d r, p ≤ i → (r.2 = 0 ∨ (4 ≤ r.2 ∧ 1 ≤ r.1 ∧ r.1 ≤ 4096 ∧ r.1 ≤ i ∧ r.2 = lcp b 131 (i - r.1) i)) → ((bst b i p d r).2 = 0 ∨ (4 ≤ (bst b i p d r).2 ∧ 1 ≤ (bst b i p d r).1 ∧ (bst b i p d r).1 ≤ 4096 ∧ (bst b i p d r).1 ≤ i ∧ (bst b i p d r).2 = lcp b 131 (i - (bst b i p d r).1) i)) := by
  intro p
  induction p with
  | zero => intro d r _ h; exact h
  | succ p ih =>
    intro d r hp h
    rw [bst]
    split
    · rename_i h1
      split
      · rename_i h2
        refine ih _ _ (by omega) ?_
        split
        · refine .inr ⟨h2, by simp only; omega, by simp only; omega, by simp only; omega, ?_⟩
          simp only
          rw [show i - (i - p) = p by omega]
        · exact h
      · exact ih _ _ (by omega) h
    · exact h
/-- The last place below n, and one, whose four bytes have the hash h; else 0. -/
def lst (b : List Int) (H : Nat → Nat) (h : Nat) : Nat → Nat
  | 0 => 0
  | q + 1 => if q + 4 ≤ b.length ∧ H q = h then q + 1 else lst b H h q
theorem lst_le (b : List Int) (H : Nat → Nat) (h : Nat) : ∀ n, lst b H h n ≤ n := by
  intro n
  induction n with
  | zero => exact Nat.le_refl _
  | succ n ih => rw [lst]; split <;> omega
theorem lst_at (b : List Int) (H : Nat → Nat) (h : Nat) : ∀ n p, lst b H h n = p + 1 → p < n ∧ p + 4 ≤ b.length ∧ H p = h := by
  intro n
  induction n with
  | zero => intro p e; cases e
  | succ n ih =>
    intro p e
    rw [lst] at e
    split at e
    · rename_i h1
      obtain rfl : n = p := by omega
      exact ⟨by omega, h1⟩
    · have := ih p e
      exact ⟨by omega, this.2⟩
theorem lst_no (b : List Int) (H : Nat → Nat) (h : Nat) : ∀ n q, lst b H h n ≤ q → q < n → ¬ (q + 4 ≤ b.length ∧ H q = h) := by
  intro n
  induction n with
  | zero => intro q _ h; omega
  | succ n ih =>
    intro q h1 h2
    rw [lst] at h1
    split at h1
    · omega
    · rename_i h3
      by_cases hq : q = n
      · subst hq; exact h3
      · exact ih q h1 (by omega)
/-- A walk along a chain is a walk over all places. -/
theorem bst_chain (b : List Int) (H : Nat → Nat) (i n : Nat) (d : Int) (r : Nat × Nat) (hn : n ≤ i) (hi : i + 4 ≤ b.length) (hH : ∀ q, q < i → 4 ≤ lcp b 131 q i → H q = H i) : bst b i n d r = bst b i (lst b H (H i) n) d r := by
  refine bst_skip b i _ d r n (lst_le _ _ _ _) fun q h1 h2 => ?_
  refine Nat.lt_of_not_le fun h4 => lst_no b H (H i) n q h1 h2 ⟨by omega, hH q (by omega) h4⟩
theorem bst_none (b : List Int) (i : Nat) (d : Int) (r : Nat × Nat) (hi : b.length < i + 4) (hil : i ≤ b.length) : ∀ p, bst b i p d r = r := by
  intro p
  induction p with
  | zero => rfl
  | succ p ih =>
    rw [bst]
    split
    · rw [if_neg (by have := lcp_in b 131 p i hil; omega)]
      exact ih
    · rfl
/-- Bytes in pieces of 128. -/
def chunks : Nat → List Int → List Tok
  | 0, _ => []
  | f + 1, l => if l = [] then [] else (l.take 128, 0, 0) :: chunks f (l.drop 128)
def pcs (l : List Int) : List Tok := chunks l.length l
theorem chunks_more : ∀ (f : Nat) (l : List Int), l.length ≤ f → chunks f l = chunks l.length l := by
  intro f
  induction f using Nat.strongRecOn with
  | _ f ih =>
    intro l h
    cases f with
    | zero => obtain rfl : l = [] := List.eq_nil_of_length_eq_zero (by omega); rfl
    | succ f =>
      cases hl : l with
      | nil => rfl
      | cons x r =>
        rw [← hl]
        have e : l.length = r.length + 1 := by rw [hl]; rfl
        have hd : (l.drop 128).length = l.length - 128 := List.length_drop
        rw [e, chunks, chunks, if_neg (by rw [hl]; simp), if_neg (by rw [hl]; simp)]
        rw [ih f (by omega) _ (by omega), ih r.length (by omega) _ (by omega)]
theorem pcs_step (l : List Int) (h : l ≠ []) : pcs l = (l.take 128, 0, 0) :: pcs (l.drop 128) := by
  unfold pcs
  cases hl : l with
  | nil => exact absurd hl h
  | cons x r =>
    rw [← hl]
    have e : l.length = r.length + 1 := by rw [hl]; rfl
    have hd : (l.drop 128).length = l.length - 128 := List.length_drop
    conv => lhs; rw [e]
    rw [chunks, if_neg h, chunks_more r.length _ (by omega)]
theorem pcs_nil : pcs [] = [] := rfl
/-- The greedy search from i on; the bytes from 'from' on are not laid out yet. -/
def grd (b : List Int) (d : Int) : Nat → Nat → Nat → List Tok → List Tok
  | 0, from_, i, acc => acc ++ pcs ((b.drop from_).take (i - from_))
  | f + 1, from_, i, acc => if i < b.length then (if (bst b i i d (0, 0)).2 = 0 then grd b d f from_ (i + 1) acc else grd b d f (i + (bst b i i d (0, 0)).2) (i + (bst b i i d (0, 0)).2) (acc ++ pcs ((b.drop from_).take (i - from_)) ++ [([], ((bst b i i d (0, 0)).1 : Int), ((bst b i i d (0, 0)).2 : Int))])) else acc ++ pcs ((b.drop from_).take (i - from_))
end Go.Proofs.YthjfncppiffnmaaDoor.Ra.Pn
