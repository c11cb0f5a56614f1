/- frame: the parser behind a stream; states alike; alive of leatlaw17. -/
import Derived.Test.YtoccmjhgmoandaaXh
import Derived.Test.YtoccmjhgmoandaaSr
namespace Go.Proofs.Ytoccmjhgmoandaa.Ra
open Go Go.RowKit
set_option linter.unusedVariables false
set_option linter.unusedSimpArgs false
set_option maxRecDepth 10000
theorem aeqT (a b c d : Int) : aeqS Try.prog ST [i64 a, i64 b, i64 c, i64 d] [i64 a, i64 b, i64 c, i64 d] = some true := by
  unfold aeqS
  rw [Try.underlying34]
  simp only
  rw [if_pos ⟨by kernel_rfl, by kernel_rfl⟩]
  simp [aeqF, Try.underlying3, Try.underlying28]
theorem stNe (a b c d : Int) : abin Try.prog .neq ST (stT a b c d) (stT a b c d) = some (.bool false) := by
  simp only [stT, abin, aeqT]
  rfl
theorem stEq (a b c d : Int) : abin Try.prog .eql ST (stT a b c d) (stT a b c d) = some (.bool true) := by
  simp only [stT, abin, aeqT]
  rfl
/-- The parser behind a stream b. -/
def Fed (st : St) (lo p : Nat) (KH KB : Nat → Prop) (M : Int) (b : List Int) : Prop :=
  Prs st lo p KH KB M (cutS M b).2.1 (cutS M b).1.length ((b.length : Int) - (cutS M b).2.1.length) (cutS M b).2.2
theorem Fed.keep {st s : St} {G : Nat → Prop} {lo p : Nat} {KH KB : Nat → Prop} {M : Int} {b : List Int} (h : Fed st lo p KH KB M b) (hk : Keeps G st s) (h1 : ¬ G p) (h2 : ∀ g, KH g → ¬ G g) (h3 : ∀ g, KB g → ¬ G g) : Fed s lo p KH KB M b := Prs.keep h hk h1 h2 h3
theorem Fed.up {st s : St} {lo p : Nat} {KH KB : Nat → Prop} {M : Int} {b : List Int} (h : Fed st lo p KH KB M b) (hk : Ext st s) : Fed s lo p KH KB M b := Prs.up h hk
theorem fnewP {st : St} (hw : WF st) (m : Int) : ACalls Try.prog 9 [i64 m] st (fun r s => Ext st s ∧ ∃ p, r = .ptr p 0 ∧ st.n ≤ p ∧ Fed s (p + 1) p (fun _ => False) (fun _ => False) (bndF m) []) :=
  (fnew_ok hw m).mono fun r s ⟨h1, p, h2, h3, h4, h5⟩ => ⟨h1, p, h2, h3, by
    refine ⟨by omega, by omega, fun _ h => h.elim, fun _ h => h.elim, fun _ h => h.elim, _, _, 0, 0, h5, .inl ⟨?_, rfl⟩, .inl ⟨?_, rfl⟩, fun _ => ⟨fun h => ?_, ?_⟩⟩
    · simp [cutS, cut]
    · simp [cutS, cut]
    · simp [cutS, cut] at h
    · simp [cutS, cut]⟩
theorem bndF_in (m : Int) : 0 ≤ bndF m ∧ bndF m ≤ 131072 := by unfold bndF; omega
theorem fed_ok {st : St} (hw : WF st) {lo p : Nat} {KH KB Kc : Nat → Prop} {M : Int} {b : List Int} {cv : AV} {c : List Int} (h : Fed st lo p KH KB M b) (hM : M ≤ 131072) (hc : RdB st Kc cv c) (hcK : ∀ g, Kc g → ¬ KH g ∧ ¬ KB g ∧ g ≠ p) (hby : ∀ x ∈ b ++ c, 0 ≤ x ∧ x < 256) (hl : b.length + c.length ≤ 10000000) :
    ACalls Try.prog 12 [.ptr p 0, cv] st (fun res s => Keeps (fun g => g = p ∨ KH g ∨ KB g) st s ∧ ∃ x, ∃ KX KH' KB' : Nat → Prop, ∃ L : Nat → Nat → Prop, ∃ fs, res = .tup [x, i64 (cutS M (b ++ c)).2.2] ∧ x.solid = true ∧ OwX oRowK s KX L BT x fs ∧ Grp st.n s.n KH KB KX KH' KB' L ∧ (cutS M (b ++ c)).1 = (cutS M b).1 ++ fs ∧ ((cutS M b).2.2 ≠ 0 → fs = []) ∧ Fed s lo p KH' KB' M (b ++ c)) := by
  obtain ⟨k1, k2, k3, k4, k5, kk, k6⟩ := cutS_ok M b.length b (Nat.le_refl _)
  have happ := cutS_app M c b.length b (Nat.le_refl _)
  have hfl : 4 * (cutS M b).1.length ≤ b.length := by
    have : 4 * (cutS M b).1.length ≤ ((cutS M b).1.map fun f => f.length + 4).sum := by
      generalize (cutS M b).1 = l
      induction l with
      | nil => simp
      | cons x l ih => simp; omega
    omega
  refine (feed_ok hw h k1 hM hc hcK (fun x hx => ?_) (by omega) ⟨by omega, by omega⟩ ⟨by omega, by omega⟩).mono fun res s hq => ?_
  · rcases List.mem_append.1 hx with hx | hx
    · rw [k6] at hx
      exact hby x (List.mem_append_left _ (List.mem_of_mem_drop hx))
    · exact hby x (List.mem_append_right _ hx)
  obtain ⟨q1, x, KX, KH', KB', L, rfl, q2, q3, q4, q5⟩ := hq
  unfold fdq fda at *
  by_cases he : (cutS M b).2.2 = 0
  · rw [if_pos he] at happ
    rw [if_pos he] at q3
    refine ⟨q1, x, KX, KH', KB', L, _, ?_, q2, q3, q4, ?_, fun h => absurd he h, ?_⟩
    · rw [if_pos he, happ]
    · rw [happ]
    · unfold Fed
      rw [if_pos he, if_pos he] at q5
      rw [happ]
      simp only
      have e1 : (((cutS M b).1 ++ (cutS M ((cutS M b).2.1 ++ c)).1).length : Int) = ((cutS M b).1.length : Int) + ((cutS M ((cutS M b).2.1 ++ c)).1.length : Int) := by rw [List.length_append]; omega
      have e2 : ((b ++ c).length : Int) - ((cutS M ((cutS M b).2.1 ++ c)).2.1.length : Int) = (b.length : Int) - (cutS M b).2.1.length + (cutS M b).2.1.length + c.length - ((cutS M ((cutS M b).2.1 ++ c)).2.1.length : Int) := by rw [List.length_append]; omega
      rw [e1, e2]
      exact q5
  · rw [if_neg he] at happ
    rw [if_neg he] at q3
    refine ⟨q1, x, KX, KH', KB', L, [], ?_, q2, q3, q4, ?_, fun _ => rfl, ?_⟩
    · rw [if_neg he, happ]
    · rw [happ, List.append_nil]
    · unfold Fed
      rw [if_neg he, if_neg he] at q5
      rw [happ]
      simp only at q5 ⊢
      have e2 : ((b ++ c).length : Int) - (((cutS M b).2.1 ++ c).length : Int) = (b.length : Int) - (cutS M b).2.1.length := by rw [List.length_append, List.length_append]; omega
      rw [e2]
      obtain ⟨a1, a2, a3, a4, a5, hv, bv, need, pos, b1, b2, b3, b4⟩ := q5
      rw [if_neg he] at b2 b3
      refine ⟨a1, a2, a3, a4, a5, hv, bv, need, pos, ?_, by rw [if_neg he]; exact b2, by rw [if_neg he]; exact b3, fun h => absurd h he⟩
      simpa using b1
theorem fstate_ok {st : St} (hw : WF st) {lo p : Nat} {KH KB : Nat → Prop} {M : Int} {b : List Int} (h : Fed st lo p KH KB M b) (hl : b.length ≤ 10000000) :
    ACalls Try.prog 17 [.ptr p 0] st (fun r s => Ext st s ∧ r = stOf b (cutS M b)) := by
  obtain ⟨k1, k2, -⟩ := cutS_ok M b.length b (Nat.le_refl _)
  obtain ⟨a1, a2, a3, a4, a5, hv, bv, need, pos, b1, b2, b3, b4⟩ := h
  by_cases he : (cutS M b).2.2 = 0
  · rw [if_pos he] at b2 b3
    refine (state_ok hw b1 b2.rd b3.rd (by rw [List.length_take, List.length_drop]; omega)).mono fun r s hq => ⟨hq.1, ?_⟩
    rw [hq.2]
    unfold stOf
    rw [if_pos he]
    congr 1
    rw [List.length_take, List.length_drop]
    omega
  · rw [if_neg he] at b2 b3
    refine (state_ok hw b1 b2.rd b3.rd (by simp)).mono fun r s hq => ⟨hq.1, ?_⟩
    rw [hq.2]
    unfold stOf
    rw [if_neg he]
    rfl
end Go.Proofs.Ytoccmjhgmoandaa.Ra
