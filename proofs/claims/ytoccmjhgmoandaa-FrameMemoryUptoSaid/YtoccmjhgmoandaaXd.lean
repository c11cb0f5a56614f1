/- frame: step, by the rest; Feed. -/
import Derived.Test.YtoccmjhgmoandaaXc
namespace Go.Proofs.Ytoccmjhgmoandaa.Ra
open Go Go.RowKit
set_option linter.unusedVariables false
set_option linter.unusedSimpArgs false
set_option maxRecDepth 10000
/-- What 'step' leaves. -/
def StQ (st : St) (p : Nat) (KH KB Kc : Nat → Prop) (M need pos fr at_ err : Int) (r c : List Int) (res : AV) (s : St) : Prop :=
  Keeps (fun g => g = p ∨ KH g ∨ KB g) st s ∧ res.solid = true ∧ ∃ n, 1 ≤ n ∧ n ≤ c.length ∧ (r.length + n < 4 → n = c.length) ∧ (¬ r.length < 4 → (r.length : Int) + n ≤ 4 + need) ∧ (r.length < 4 → r.length + n ≤ 4) ∧ (¬ r.length < 4 → (r.length : Int) + n < 4 + need → n = c.length) ∧ RdB s Kc res (c.drop n) ∧
    ∃ hv bv, ∃ KH' KB' : Nat → Prop, (∀ g, KH' g → KH g ∨ (st.n ≤ g ∧ g < s.n)) ∧ (∀ g, KB' g → KB g ∨ (st.n ≤ g ∧ g < s.n)) ∧ (∀ g, KH' g → ¬ KB' g) ∧ OwB s KH' hv ((r ++ c.take n).take 4) ∧ OwB s KB' bv ((r ++ c.take n).drop 4) ∧ Pob s p hv bv M need (pos + n) fr at_ err
theorem step_ok {st : St} (hw : WF st) {KH KB Kc : Nat → Prop} {p : Nat} {hv bv cv : AV} {M need pos fr at_ err : Int} {r c : List Int} (h : Pob st p hv bv M need pos fr at_ err) (hh : OwB st KH hv (r.take 4)) (hb : OwB st KB bv (r.drop 4)) (hc : RdB st Kc cv c) (hpH : ¬ KH p) (hpB : ¬ KB p) (hHB : ∀ g, KH g → ¬ KB g) (hlt : (∀ g, KH g → g < st.n) ∧ ∀ g, KB g → g < st.n) (hcK : ∀ g, Kc g → ¬ KH g ∧ ¬ KB g ∧ g ≠ p)
    (hne : 0 < c.length) (hnd : ¬ r.length < 4 → (r.length : Int) - 4 < need ∧ need ≤ 1000000000) (hcl : c.length ≤ 1000000000000) (hpos : 0 ≤ pos ∧ pos ≤ 1000000000000) (hpn : p < st.n) :
    ACalls Try.prog 30 [.ptr p 0, cv] st (StQ st p KH KB Kc M need pos fr at_ err r c) := by
  by_cases h4 : r.length < 4
  · rw [List.take_of_length_le (by omega)] at hh
    rw [List.drop_of_length_le (by omega)] at hb
    refine (step_head hw h hh hb hc hpH (fun g hg => ⟨(hcK g hg).1, (hcK g hg).2.2⟩) (fun g hg => ⟨fun h' => hHB g h' hg, fun e => hpB (by rw [← e]; exact hg)⟩) h4 hcl hpos hpn).mono fun res s hq => ?_
    obtain ⟨q1, q2, q3, hv', q4, q5⟩ := hq
    have hlr : (r ++ c.take (min (4 - r.length) c.length)).length ≤ 4 := by simp; omega
    refine ⟨q1.mono (fun g hg => by rcases hg with hg | hg; exact .inl hg; exact .inr (.inl hg)), q2, min (4 - r.length) c.length, by omega, by omega, by omega, fun h' => absurd h4 h', by omega, fun h' => absurd h4 h', q3, hv', bv, fun g => KH g ∨ (st.n ≤ g ∧ g < s.n), KB, fun g hg => hg, fun g hg => .inl hg, ?_, by rw [List.take_of_length_le hlr]; exact q4, ?_, q5⟩
    · rintro g (hg | hg) hg'
      · exact hHB g hg hg'
      · have := hlt.2 g hg'; omega
    · rw [List.drop_of_length_le hlr]
      exact hb.keep q1 (fun g hg hg' => by rcases hg' with hg' | hg'; exact hpB (by rw [← hg']; exact hg); exact hHB g hg' hg)
  · have ht : (r.take 4).length = 4 := by rw [List.length_take]; omega
    have hdl : (r.drop 4).length = r.length - 4 := List.length_drop
    obtain ⟨n1, n2⟩ := hnd h4
    refine (step_body hw h hh hb hc hpB (fun g hg => ⟨(hcK g hg).2.1, (hcK g hg).2.2⟩) (fun g hg => ⟨hHB g hg, fun e => hpH (by rw [← e]; exact hg)⟩) (by omega) ⟨by omega, n2⟩ hcl hpos hpn).mono fun res s hq => ?_
    obtain ⟨q1, q2, q3, bv', q4, q5⟩ := hq
    rw [hdl] at q3 q4 q5
    refine ⟨q1.mono (fun g hg => by rcases hg with hg | hg; exact .inl hg; exact .inr (.inr hg)), q2, min (need.toNat - (r.length - 4)) c.length, by omega, by omega, fun h' => by omega, fun _ => by omega, fun h' => absurd h' h4, fun _ => by omega, q3, hv, bv', KH, fun g => KB g ∨ (st.n ≤ g ∧ g < s.n), fun g hg => .inl hg, fun g hg => hg, ?_, ?_, ?_, q5⟩
    · rintro g hg (hg' | hg')
      · exact hHB g hg hg'
      · have := hlt.1 g hg; omega
    · rw [List.take_append_of_le_length (by omega)]
      exact hh.keep q1 (fun g hg hg' => by rcases hg' with hg' | hg'; exact hpH (by rw [← hg']; exact hg); exact hHB g hg hg')
    · rw [List.drop_append_of_le_length (by omega)]
      exact q4
/-- The parser behind what was fed: the rest that is no frame yet, how many frames came, where the last one ended, the error. -/
def Prs (st : St) (lo p : Nat) (KH KB : Nat → Prop) (M : Int) (r : List Int) (fr at_ err : Int) : Prop :=
  p < lo ∧ lo ≤ st.n ∧ (∀ g, KH g → lo ≤ g ∧ g < st.n) ∧ (∀ g, KB g → lo ≤ g ∧ g < st.n) ∧ (∀ g, KH g → ¬ KB g) ∧
    ∃ hv bv need pos, Pob st p hv bv M need pos fr at_ err ∧ OwB st KH hv (if err = 0 then r.take 4 else []) ∧ OwB st KB bv (if err = 0 then r.drop 4 else []) ∧ (err = 0 → (4 ≤ r.length → need = hd r) ∧ pos = at_ + r.length)
theorem Prs.keep {st s : St} {G : Nat → Prop} {lo p : Nat} {KH KB : Nat → Prop} {M fr at_ err : Int} {r : List Int} (h : Prs st lo p KH KB M r fr at_ err) (hk : Keeps G st s) (h1 : ¬ G p) (h2 : ∀ g, KH g → ¬ G g) (h3 : ∀ g, KB g → ¬ G g) : Prs s lo p KH KB M r fr at_ err := by
  obtain ⟨a1, a2, a3, a4, a5, hv, bv, need, pos, b1, b2, b3, b4⟩ := h
  have hn := hk.n
  exact ⟨a1, by omega, fun g hg => by have := a3 g hg; omega, fun g hg => by have := a4 g hg; omega, a5, hv, bv, need, pos, b1.keep hk h1, b2.keep hk h2, b3.keep hk h3, b4⟩
theorem Prs.up {st s : St} {lo p : Nat} {KH KB : Nat → Prop} {M fr at_ err : Int} {r : List Int} (h : Prs st lo p KH KB M r fr at_ err) (hk : Ext st s) : Prs s lo p KH KB M r fr at_ err := h.keep hk (fun h => h) (fun _ _ h => h) (fun _ _ h => h)
theorem judge_hd {M : Int} {r : List Int} (h : 4 ≤ r.length) : judge M (sval (r.take 4)) = if hd r < 0 then 5 else if M < hd r then 4 else 0 := rfl
end Go.Proofs.Ytoccmjhgmoandaa.Ra
