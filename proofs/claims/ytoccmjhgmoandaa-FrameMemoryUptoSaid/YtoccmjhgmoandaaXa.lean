/- frame: plain laws: the frames of a stream, its rest, its error. -/
import Derived.Test.YtoccmjhgmoandaaSs
namespace Go.Proofs.Ytoccmjhgmoandaa.Ra
open Go Go.RowKit
set_option linter.unusedVariables false
set_option linter.unusedSimpArgs false
/-- The length that a frame tells. -/
def hd (r : List Int) : Int := sval (r.take 4)
/-- The frames, the rest that is none yet, the error's number: f rounds at most. -/
def cut (M : Int) : Nat → List Int → List (List Int) × List Int × Int
  | 0, r => ([], r, 0)
  | f + 1, r => if r.length < 4 then ([], r, 0) else if hd r < 0 then ([], r, 5) else if M < hd r then ([], r, 4) else if (r.length : Int) - 4 < hd r then ([], r, 0) else
      ((r.drop 4).take (hd r).toNat :: (cut M f (r.drop (4 + (hd r).toNat))).1, (cut M f (r.drop (4 + (hd r).toNat))).2)
def cutS (M : Int) (r : List Int) : List (List Int) × List Int × Int := cut M r.length r
theorem cut_more (M : Int) : ∀ (f : Nat) (r : List Int), r.length ≤ f → cut M f r = cut M r.length r := by
  intro f
  induction f using Nat.strongRecOn with
  | _ f ih =>
    intro r h
    cases f with
    | zero => obtain rfl : r = [] := List.eq_nil_of_length_eq_zero (by omega); rfl
    | succ f =>
      by_cases h4 : r.length < 4
      · rw [cut, if_pos h4]
        cases hl : r.length with
        | zero => rfl
        | succ q => rw [cut, if_pos h4]
      · obtain ⟨q, hq⟩ : ∃ q, r.length = q + 1 := ⟨r.length - 1, by omega⟩
        rw [hq, cut, cut]
        have hd1 : (r.drop (4 + (hd r).toNat)).length ≤ f := by rw [List.length_drop]; omega
        have hd2 : (r.drop (4 + (hd r).toNat)).length ≤ q := by rw [List.length_drop]; omega
        rw [ih f (by omega) _ hd1, ih q (by omega) _ hd2]
theorem cutS_step (M : Int) (r : List Int) : cutS M r = if r.length < 4 then ([], r, 0) else if hd r < 0 then ([], r, 5) else if M < hd r then ([], r, 4) else if (r.length : Int) - 4 < hd r then ([], r, 0) else
      ((r.drop 4).take (hd r).toNat :: (cutS M (r.drop (4 + (hd r).toNat))).1, (cutS M (r.drop (4 + (hd r).toNat))).2) := by
  unfold cutS
  by_cases h4 : r.length < 4
  · rw [if_pos h4]
    cases hl : r.length with
    | zero => rfl
    | succ q => rw [cut, if_pos h4]
  · obtain ⟨q, hq⟩ : ∃ q, r.length = q + 1 := ⟨r.length - 1, by omega⟩
    conv => lhs; rw [hq, cut]
    have hd2 : (r.drop (4 + (hd r).toNat)).length ≤ q := by rw [List.length_drop]; omega
    rw [cut_more M q _ hd2]
theorem hd_app {r : List Int} (c : List Int) (h : 4 ≤ r.length) : hd (r ++ c) = hd r := by
  unfold hd
  rw [List.take_append_of_le_length h]
/-- A rest from which nothing can be cut. -/
def Pend (M : Int) (r : List Int) : Prop := r.length < 4 ∨ (0 ≤ hd r ∧ hd r ≤ M ∧ (r.length : Int) - 4 < hd r)
theorem cutS_pend {M : Int} {r : List Int} (h : Pend M r) : cutS M r = ([], r, 0) := by
  rw [cutS_step]
  rcases h with h | ⟨h1, h2, h3⟩
  · rw [if_pos h]
  · by_cases h4 : r.length < 4
    · rw [if_pos h4]
    · rw [if_neg h4, if_neg (by omega), if_neg (by omega), if_pos h3]
/-- What is cut: the rest is none yet, unless there is an error. -/
theorem cutS_ok (M : Int) : ∀ (m : Nat) (r : List Int), r.length ≤ m → ((cutS M r).2.2 = 0 → Pend M (cutS M r).2.1) ∧ (cutS M r).2.1.length ≤ r.length ∧ (∀ f ∈ (cutS M r).1, (f.length : Int) ≤ M) ∧
    r.length = (((cutS M r).1.map fun f => f.length + 4).sum) + (cutS M r).2.1.length ∧ ((cutS M r).2.2 = 0 ∨ (cutS M r).2.2 = 4 ∨ (cutS M r).2.2 = 5) ∧ (∃ k, (cutS M r).2.1 = r.drop k) := by
  intro m
  induction m using Nat.strongRecOn with
  | _ m ih =>
    intro r hm
    rw [cutS_step]
    split
    · rename_i h; exact ⟨fun _ => .inl h, Nat.le_refl _, by simp, by simp, .inl rfl, 0, rfl⟩
    · split
      · exact ⟨by simp, Nat.le_refl _, by simp, by simp, by simp, 0, rfl⟩
      · split
        · exact ⟨by simp, Nat.le_refl _, by simp, by simp, by simp, 0, rfl⟩
        · split
          · rename_i h1 h2 h3 h4
            exact ⟨fun _ => show Pend M r from .inr ⟨by omega, by omega, h4⟩, Nat.le_refl _, by simp, by simp, .inl rfl, 0, rfl⟩
          · rename_i h1 h2 h3 h4
            have hl : (r.drop (4 + (hd r).toNat)).length = r.length - (4 + (hd r).toNat) := List.length_drop
            obtain ⟨k1, k2, k3, k4, k5, k, k6⟩ := ih (r.length - (4 + (hd r).toNat)) (by omega) (r.drop (4 + (hd r).toNat)) (by omega)
            have hf : ((r.drop 4).take (hd r).toNat).length = (hd r).toNat := by rw [List.length_take, List.length_drop]; omega
            refine ⟨k1, Nat.le_trans k2 (by omega), ?_, ?_, k5, 4 + (hd r).toNat + k, k6.trans (List.drop_drop ..)⟩
            · intro f hf2
              rcases List.mem_cons.1 hf2 with rfl | hf2
              · rw [hf]; omega
              · exact k3 f hf2
            · simp only [List.map_cons, List.sum_cons, hf]
              omega
/-- Behind what was cut the stream goes on from its rest. -/
theorem cutS_app (M : Int) (c : List Int) : ∀ (m : Nat) (r : List Int), r.length ≤ m → cutS M (r ++ c) = if (cutS M r).2.2 = 0 then ((cutS M r).1 ++ (cutS M ((cutS M r).2.1 ++ c)).1, (cutS M ((cutS M r).2.1 ++ c)).2) else ((cutS M r).1, (cutS M r).2.1 ++ c, (cutS M r).2.2) := by
  intro m
  induction m using Nat.strongRecOn with
  | _ m ih =>
    intro r hm
    by_cases h4 : r.length < 4
    · rw [cutS_pend (r := r) (.inl h4)]
      simp
    · have hh := hd_app c (r := r) (by omega)
      by_cases h0 : hd r < 0
      · have e : cutS M r = ([], r, 5) := by rw [cutS_step, if_neg h4, if_pos h0]
        rw [cutS_step, if_neg (by rw [List.length_append]; omega), hh, if_pos h0, e]
        simp
      · by_cases h1 : M < hd r
        · have e : cutS M r = ([], r, 4) := by rw [cutS_step, if_neg h4, if_neg h0, if_pos h1]
          rw [cutS_step, if_neg (by rw [List.length_append]; omega), hh, if_neg h0, if_pos h1, e]
          simp
        · by_cases h2 : (r.length : Int) - 4 < hd r
          · rw [cutS_pend (r := r) (.inr ⟨by omega, by omega, h2⟩)]
            simp
          · have hl : (r.drop (4 + (hd r).toNat)).length = r.length - (4 + (hd r).toNat) := List.length_drop
            have e : cutS M r = ((r.drop 4).take (hd r).toNat :: (cutS M (r.drop (4 + (hd r).toNat))).1, (cutS M (r.drop (4 + (hd r).toNat))).2) := by rw [cutS_step, if_neg h4, if_neg h0, if_neg h1, if_neg h2]
            rw [cutS_step (r := r ++ c), if_neg (by rw [List.length_append]; omega), hh, if_neg h0, if_neg h1, if_neg (by rw [List.length_append]; omega), e]
            have e1 : ((r ++ c).drop 4).take (hd r).toNat = (r.drop 4).take (hd r).toNat := by
              rw [List.drop_append_of_le_length (by omega), List.take_append_of_le_length (by rw [List.length_drop]; omega)]
            have e2 : (r ++ c).drop (4 + (hd r).toNat) = r.drop (4 + (hd r).toNat) ++ c := List.drop_append_of_le_length (by omega)
            rw [e1, e2, ih (r.length - (4 + (hd r).toNat)) (by omega) _ (by omega)]
            split <;> rfl
end Go.Proofs.Ytoccmjhgmoandaa.Ra
