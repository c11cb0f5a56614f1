/- leatlaw05.TokenParses. -/
import Derived.Test.YtoohookgimkhbaaTm
namespace Go.Proofs.Ytoohookgimkhbaa.Ra
open Go Go.RowKit
set_option linter.unusedVariables false
set_option linter.unusedSimpArgs false
set_option maxRecDepth 10000
/-- A token of which the literal alone is told. -/
def oLitK : EK (List Int) where
  s := 3
  R := fun st K cs l => ∃ c, ∃ d n : Int, cs = [c, i64 d, i64 n] ∧ OwB st K c l
  keep := fun hk hd c x ⟨v, d, n, h1, h2⟩ => ⟨v, d, n, h1, h2.keep hk hd⟩
  mono := fun hk c x ⟨v, d, n, h1, h2⟩ => ⟨v, d, n, h1, h2.mono hk⟩
  lt := fun hw c x ⟨v, d, n, h1, h2⟩ => ⟨v, d, n, h1, h2.lt hw⟩
  one := fun c x ⟨v, d, n, h1, h2⟩ => by subst h1; simp [h2.rd.cell.2]; exact ⟨rfl, rfl⟩
  len := fun c x ⟨v, d, n, h1, h2⟩ => by subst h1; rfl
theorem oLit_of {st : St} {K : Nat → Prop} {L : Nat → Nat → Prop} {e : TypeId} {v : AV} {ts : List Tok} (h : OwX oTokK st K L e v ts) : OwX oLitK st K L e v (ts.map (·.1)) := by
  rcases h with ⟨h1, h2⟩ | ⟨i, g, cs, h1, h2, h3, h4, h5⟩
  · exact .inl ⟨by rw [h1]; rfl, h2⟩
  · refine .inr ⟨i, g, cs, by rw [List.length_map]; exact h1, h2, h3, by rw [List.length_map]; exact h4, fun j x hx => ?_⟩
    rw [List.getElem?_map] at hx
    obtain ⟨t, ht, rfl⟩ := Option.map_eq_some_iff.1 hx
    obtain ⟨c, k1, k2⟩ := h5 j t ht
    exact ⟨c, _, _, k1, k2⟩
theorem oLit_at {st : St} {K : Nat → Prop} {L : Nat → Nat → Prop} {v : AV} {ls : List (List Int)} (h : OwX oLitK st K L TK v ls) (j : Nat) (hj : j < ls.length) :
    ∃ i g cs c, ∃ d n : Int, v = .sl i 0 ls.length 3 ∧ st.get i = some ⟨cs, TK, true, g⟩ ∧ K g ∧ cs.length = ls.length * 3 ∧ aindexAddr Try.prog 25 v (i64 j) = some (.ptr i (j * 3)) ∧ aload Try.prog st 22 (.ptr i (j * 3)) = some c ∧ aload Try.prog st 3 (.ptr i (j * 3 + 1)) = some (i64 d) ∧ c.solid = true ∧ (cs.drop (j * 3)).take 3 = [c, i64 d, i64 n] ∧ OwB st (fun h => L j h ∧ h ≠ g) c ls[j] := by
  obtain ⟨i, g, cs, h1, h2, h3, h4, c, d, n, h5, h6⟩ := h.get j hj
  have hs : oLitK.s = 3 := rfl
  rw [hs] at h1 h4 h5
  have q : ∀ p, p < 3 → cs[j * 3 + p]? = ([c, i64 d, i64 n] : List AV)[p]? := fun p hp => by
    rw [← h5, List.getElem?_take, if_pos hp, List.getElem?_drop]
  refine ⟨i, g, cs, c, d, n, h1, h2, h3, h4, ?_, ldB h2 (q 0 (by omega)), ldI h2 (q 1 (by omega)), h6.solid, h5, h6⟩
  rw [h1, idx_sl (P := Try.prog) (e := TK) (s := 3) (by kernel_rfl) (by kernel_rfl) _ _ _ _ _ _ (by omega) (by omega)]
  simp only [Int.toNat_natCast, Nat.zero_add]
/-- The distance of one is written over. -/
theorem oLit_set {st s : St} {K : Nat → Prop} {L : Nat → Nat → Prop} {v : AV} {ls : List (List Int)} (h : OwX oLitK st K L TK v ls) {i g j : Nat} {cs : List AV} {c : AV} {d n : Int} (h1 : v = .sl i 0 ls.length 3) (h2 : st.get i = some ⟨cs, TK, true, g⟩) (hc : (cs.drop (j * 3)).take 3 = [c, i64 d, i64 n]) (y : Int)
    (hk : Keeps (fun x => x = g) st s) (hs : s.get i = some ⟨cs.set (j * 3 + 1) (i64 y), TK, true, g⟩) : OwX oLitK s K L TK v ls := by
  rcases h with h | ⟨i', g', cs', e1, e2, e3, e4, e5⟩
  · exact .inl h
  · rw [e1] at h1
    cases h1
    rw [e2] at h2
    cases h2
    refine .inr ⟨i, g, cs.set (j * 3 + 1) (i64 y), e1, hs, e3, by rw [List.length_set]; exact e4, fun q x hx => ?_⟩
    obtain ⟨c', d', n', k1, k2⟩ := e5 q x hx
    have hsz : oLitK.s = 3 := rfl
    rw [hsz] at k1 ⊢
    have k2' := k2.keep hk (fun g' hg hg' => hg.2 hg')
    by_cases hq : q = j
    · subst hq
      rw [hc] at k1
      cases k1
      refine ⟨c, y, n, ?_, k2'⟩
      have hl : ((cs.drop (q * 3)).take 3).length = 3 := by rw [hc]; rfl
      rw [List.length_take, List.length_drop] at hl
      apply List.ext_getElem?
      intro p
      rw [List.getElem?_take]
      by_cases hp : p < 3
      · rw [if_pos hp, List.getElem?_drop, List.getElem?_set]
        have hcp : cs[q * 3 + p]? = ([c, i64 d, i64 n] : List AV)[p]? := by rw [← hc, List.getElem?_take, if_pos hp, List.getElem?_drop]
        match p, hp with
        | 0, _ => rw [if_neg (by omega), hcp]; rfl
        | 1, _ => rw [if_pos rfl, if_pos (by omega)]; rfl
        | 2, _ => rw [if_neg (by omega), hcp]; rfl
      · rw [if_neg hp, List.getElem?_eq_none (by simp; omega)]
    · refine ⟨c', d', n', ?_, k2'⟩
      rw [← k1]
      apply List.ext_getElem?
      intro p
      rw [List.getElem?_take, List.getElem?_take]
      by_cases hp : p < 3
      · rw [if_pos hp, if_pos hp, List.getElem?_drop, List.getElem?_drop, List.getElem?_set, if_neg (by omega)]
      · rw [if_neg hp, if_neg hp]
theorem pars_bad : ∀ (f : Nat) (b : List Int) (acc : List Tok), (pars f b acc).1 ≠ 0 → (pars f b acc).2 = [] := by
  intro f
  induction f with
  | zero => intro b acc h; exact absurd rfl h
  | succ f ih =>
    intro b acc h
    simp only [pars] at h ⊢
    by_cases h1 : b = []
    · rw [if_pos h1] at h; exact absurd rfl h
    · rw [if_neg h1] at h ⊢
      by_cases h2 : (one b).1 ≠ 0
      · rw [if_pos h2]
      · rw [if_neg h2] at h ⊢
        exact ih _ _ h
theorem pars_lits (b : List Int) (hby : ∀ x ∈ b, 0 ≤ x ∧ x < 256) : ∀ t ∈ (pars b.length b []).2, t.1.length ≤ 128 := by
  by_cases he : (pars b.length b []).1 = 0
  · obtain ⟨ts, h1, h2, h3⟩ := (pars_expd 0 b.length b [] [] (Nat.le_refl _) hby).2 he
    rw [h1, List.nil_append]
    exact h3
  · rw [pars_bad _ _ _ he]
    intro t ht
    cases ht
theorem OwX.split {α : Type} {k : EK α} {st : St} {K : Nat → Prop} {L : Nat → Nat → Prop} {e : TypeId} {v : AV} {xs : List α} (h : OwX k st K L e v xs) : ∃ g0, OwX k st (fun g => K g ∧ g = g0) (fun j g => L j g ∧ g ≠ g0) e v xs := by
  rcases h with h | ⟨i, g, cs, h1, h2, h3, h4, h5⟩
  · exact ⟨0, .inl h⟩
  · exact ⟨g, .inr ⟨i, g, cs, h1, h2, ⟨h3, rfl⟩, h4, fun j x hx => k.mono (fun h hh => ⟨⟨hh.1, hh.2⟩, hh.2⟩) _ _ (h5 j x hx)⟩⟩
end Go.Proofs.Ytoohookgimkhbaa.Ra
