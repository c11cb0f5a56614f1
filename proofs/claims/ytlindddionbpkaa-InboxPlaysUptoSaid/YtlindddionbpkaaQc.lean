/- inbox: the bounded rows of the store, Offer in the machine. -/
import Derived.Test.YtlindddionbpkaaQb
import Derived.Test.YtlindddionbpkaaRj
namespace Go.Proofs.Ytlindddionbpkaa.Ra
open Go Go.Conc Go.RowKit
set_option linter.unusedVariables false
set_option linter.unusedSimpArgs false
def St.setCh (st : St) (i : Nat) (c : AInb) : St := { st with ch := fun j => if j = i then some c else st.ch j }
theorem Sim.inb {P : Program} {w0 w w' : World} {σ : Ren} {st : St} (h : Sim P w0 σ st w) {i : Nat} {l : Loc} {c c' : AInb} (hch : st.ch i = some c) (hl : σ i = some l) (hw : ∀ k, k ≠ l.blk → k ≠ l.lim → w'.heap[k]? = w.heap[k]?) (hsz : w'.heap.size = w.heap.size) (hbel : Below w0.heap.size w0 w')
    (hx : ∃ e, w'.heap[l.blk]? = some (.cells #[.chan (some l.lim), .bool c'.closed] e (0, 0))) (hc : ∃ buf s q, w'.heap[l.lim]? = some (.chan c'.cap buf c'.closed s q false) ∧ CR σ c'.row buf.toList) : Sim P w0 σ (st.setCh i c') w' := by
  obtain ⟨l0, hl0, g1, g2, g3, g4, ⟨e, g5⟩, buf, s, q, g6, g7⟩ := h.inbs.chan i c hch
  rw [hl] at hl0
  cases hl0
  refine ⟨hbel, h.dom, fun j o hj => ?_, fun j l' hj => by rw [hsz]; exact h.place j l' hj, h.alias, h.init, fun k ck hk => ?_, fun k ck lk j o l' h1 h2 h3 h4 => ?_, fun k j ck cj lk lj hne h1 h2 h3 h4 => ?_⟩
  · obtain ⟨l', hl', ho1, cc, ee, fz, ho2, ho3⟩ := h.obj j o hj
    refine ⟨l', hl', ho1, cc, ee, fz, ?_, ho3⟩
    rw [hw _ (h.inbs.sep i c l j o l' hch hl hj hl') (fun e => by rw [e, g6] at ho2; cases ho2)]
    exact ho2
  · by_cases e : k = i
    · subst e
      simp only [St.setCh, if_true, Option.some.injEq] at hk
      subst hk
      exact ⟨l, hl, g1, g2, g3, g4, hx, hc⟩
    · simp only [St.setCh, e, if_false] at hk
      obtain ⟨lk, hlk, k1, k2, k3, k4, ⟨ek, k5⟩, bufk, sk, qk, k6, k7⟩ := h.inbs.chan k ck hk
      obtain ⟨d1, d2⟩ := h.inbs.dis k i ck c lk l e hk hch hlk hl
      refine ⟨lk, hlk, k1, k2, k3, k4, ⟨ek, ?_⟩, bufk, sk, qk, ?_, k7⟩
      · rw [hw _ d1 (fun e => by rw [e, g6] at k5; cases k5)]
        exact k5
      · rw [hw _ (fun e => by rw [e, g5] at k6; cases k6) d2]
        exact k6
  · by_cases e : k = i
    · subst e
      exact h.inbs.sep k c lk j o l' hch h2 h3 h4
    · simp only [St.setCh, e, if_false] at h1
      exact h.inbs.sep k ck lk j o l' h1 h2 h3 h4
  · by_cases e : k = i
    · subst e
      have e2 : j ≠ k := fun e => hne e.symm
      simp only [St.setCh, e2, if_false] at h2
      exact h.inbs.dis k j c cj lk lj hne hch h2 h3 h4
    · simp only [St.setCh, e, if_false] at h1
      by_cases e2 : j = i
      · subst e2
        exact h.inbs.dis k j ck c lk lj hne h1 hch h3 h4
      · simp only [St.setCh, e2, if_false] at h2
        exact h.inbs.dis k j ck cj lk lj hne h1 h2 h3 h4
/-- The row alone. -/
theorem Sim.inbRow {P : Program} {w0 w : World} {σ : Ren} {st : St} (h : Sim P w0 σ st w) {i : Nat} {l : Loc} {c : AInb} (hch : st.ch i = some c) (hl : σ i = some l) {row : List AV} {buf : Array Value} (hr : CR σ row buf.toList) (s q : Nat) :
    Sim P w0 σ (st.setCh i { c with row := row }) (w.setChan l.lim c.cap buf c.closed s q false) := by
  obtain ⟨l0, hl0, g1, g2, g3, g4, ⟨e, g5⟩, buf0, s0, q0, g6, g7⟩ := h.inbs.chan i c hch
  rw [hl] at hl0
  cases hl0
  have hlt : l.lim < w.heap.size := (Array.getElem?_eq_some_iff.1 g6).1
  have hne : l.blk ≠ l.lim := fun e => by rw [e, g6] at g5; cases g5
  have hother : ∀ k, k ≠ l.lim → (w.setChan l.lim c.cap buf c.closed s q false).heap[k]? = w.heap[k]? := fun k hk => by
    simp only [World.setChan]
    exact Array.getElem?_setIfInBounds_ne (fun e => hk e.symm)
  exact h.inb hch hl (fun k _ h2 => hother k h2) (size_setChan _ _ _ _ _ _ _ _) (below_setChan h.below g4 _ _ _ _ _ _) ⟨e, by rw [hother _ hne]; exact g5⟩ ⟨buf, s, q, heap_setChan _ _ _ _ _ _ _ _ hlt, hr⟩
/-- Shut. -/
theorem Sim.inbShut {P : Program} {w0 w : World} {σ : Ren} {st : St} (h : Sim P w0 σ st w) {i : Nat} {l : Loc} {c : AInb} (hch : st.ch i = some c) (hl : σ i = some l) {buf : Array Value} (hr : CR σ c.row buf.toList) (s q : Nat) :
    Sim P w0 σ (st.setCh i { c with closed := true }) ((w.setRow l.blk #[.chan (some l.lim), .bool true]).setChan l.lim c.cap buf true s q false) := by
  obtain ⟨l0, hl0, g1, g2, g3, g4, ⟨e, g5⟩, buf0, s0, q0, g6, g7⟩ := h.inbs.chan i c hch
  rw [hl] at hl0
  cases hl0
  have hne : l.blk ≠ l.lim := fun e => by rw [e, g6] at g5; cases g5
  have h1 := setRow_heap w l.blk _ #[.chan (some l.lim), .bool true] _ _ g5
  have h2 : ∀ k, k ≠ l.blk → (w.setRow l.blk #[.chan (some l.lim), .bool true]).heap[k]? = w.heap[k]? := fun k hk => setRow_other w l.blk k _ hk
  have hsz : (w.setRow l.blk #[.chan (some l.lim), .bool true]).heap.size = w.heap.size := by simp [World.setRow]
  have hlt : l.lim < (w.setRow l.blk #[.chan (some l.lim), .bool true]).heap.size := by rw [hsz]; exact (Array.getElem?_eq_some_iff.1 g6).1
  have hother : ∀ k, k ≠ l.lim → ((w.setRow l.blk #[.chan (some l.lim), .bool true]).setChan l.lim c.cap buf true s q false).heap[k]? = (w.setRow l.blk #[.chan (some l.lim), .bool true]).heap[k]? := fun k hk => by
    simp only [World.setChan]
    exact Array.getElem?_setIfInBounds_ne (fun e => hk e.symm)
  exact h.inb (c' := { c with closed := true }) hch hl (fun k k1 k2 => by rw [hother k k2, h2 k k1]) (by rw [size_setChan, hsz]) (below_setChan (below_setRow h.below g3 _) g4 _ _ _ _ _ _) ⟨e, by rw [hother _ hne]; exact h1⟩ ⟨buf, s, q, heap_setChan _ _ _ _ _ _ _ _ hlt, hr⟩
/-- A new inbox. -/
theorem Sim.inbNew {P : Program} {w0 w : World} {σ : Ren} {st : St} (h : Sim P w0 σ st w) (cap : Nat) (t : TypeId) :
    Sim P w0 (σ.set st.n ⟨w.heap.size + 1, 0, w.heap.size, 0, true⟩) ((st.bump 1).setCh st.n ⟨cap, [], false⟩) ((w.alloc (.chan cap #[] false 0 0 false)).alloc (.cells #[.chan (some w.heap.size), .bool false] t (0, 0))) := by
  have hid : σ st.n = none := h.dom _ (Nat.le_refl _)
  have hsub := Ren.set_sub σ hid ⟨w.heap.size + 1, 0, w.heap.size, 0, true⟩
  have hB := h.below
  have hB1 : Below w0.heap.size w0 (w.alloc (.chan cap #[] false 0 0 false)) := hB.alloc hB.size _
  have hs1 : (w.alloc (.chan cap #[] false 0 0 false)).heap.size = w.heap.size + 1 := by
    show (w.heap.push _).size = _
    simp
  have hB2 : Below w0.heap.size w0 ((w.alloc (.chan cap #[] false 0 0 false)).alloc (.cells #[.chan (some w.heap.size), .bool false] t (0, 0))) := hB1.alloc (by rw [hs1]; have := hB.size; omega) _
  generalize hw' : (w.alloc (.chan cap #[] false 0 0 false)).alloc (.cells #[.chan (some w.heap.size), .bool false] t (0, 0)) = w' at hB2 ⊢
  have hold : ∀ k, k < w.heap.size → w'.heap[k]? = w.heap[k]? := fun k hk => by
    rw [← hw', Below.heap_alloc _ _ k (by rw [hs1]; omega), Below.heap_alloc _ _ k hk]
  have hn1 : w'.heap[w.heap.size]? = some (.chan cap #[] false 0 0 false) := by
    rw [← hw', Below.heap_alloc _ _ _ (by rw [hs1]; omega)]
    show (w.heap.push _)[w.heap.size]? = _
    simp
  have hn2 : w'.heap[w.heap.size + 1]? = some (.cells #[.chan (some w.heap.size), .bool false] t (0, 0)) := by
    rw [← hw']
    show ((w.heap.push _).push _)[w.heap.size + 1]? = _
    have : w.heap.size + 1 = (w.heap.push (.chan cap #[] false 0 0 false)).size := by simp
    rw [this, Array.getElem?_push_size]
  have hsz : w'.heap.size = w.heap.size + 2 := by
    rw [← hw']
    show ((w.heap.push _).push _).size = _
    simp
  have h1 : Inbs w0 (σ.set st.n ⟨w.heap.size + 1, 0, w.heap.size, 0, true⟩) (st.bump 1) w' := h.inbs.step hsub rfl (fun i c l _ _ q => by
    obtain ⟨-, -, -, -, ⟨e', g5⟩, buf, s', q', g6, -⟩ := q
    exact ⟨hold _ (Array.getElem?_eq_some_iff.1 g5).1, hold _ (Array.getElem?_eq_some_iff.1 g6).1⟩) (fun j o l' a b => by
    have e1 : j ≠ st.n := fun e => by
      obtain ⟨l2, hl2, -⟩ := h.obj j o a
      rw [e, hid] at hl2
      cases hl2
    simp only [Ren.set, e1, if_false] at b
    exact .inl ⟨j, o, l', a, b, rfl⟩)
  have hobj : ∀ j o l', st.get j = some o → (σ.set st.n ⟨w.heap.size + 1, 0, w.heap.size, 0, true⟩) j = some l' → σ j = some l' ∧ l'.blk < w.heap.size := fun j o l' hj hlj => by
    obtain ⟨l2, hl2, -⟩ := h.obj j o hj
    have := hsub j l2 hl2
    rw [hlj] at this
    cases this
    exact ⟨hl2, by rcases h.place j l' hl2 with h | h; exact h.2; exact h.2.2⟩
  have hchn : ∀ k ck, st.ch k = some ck → k ≠ st.n := fun k ck hk e => by
    obtain ⟨l2, hl2, -⟩ := h.inbs.chan k ck hk
    rw [e, hid] at hl2
    cases hl2
  refine ⟨hB2, fun i hi => ?_, fun j o hj => ?_, fun j l' hj => ?_, fun j k o o' l l' hj hk hlj hlk hown hbk => ?_, fun g hg => hsub _ _ (h.init g hg), fun k ck hk => ?_, fun k ck lk j o l' k1 k2 k3 k4 => ?_, fun k j ck cj lk lj hne k1 k2 k3 k4 => ?_⟩
  · simp only [St.setCh, St.bump] at hi
    have : i ≠ st.n := by omega
    simp only [Ren.set, this, if_false]
    exact h.dom i (by omega)
  · obtain ⟨l', hl', ho1, cc, ee, fz, ho2, ho3, ho4⟩ := h.obj j o hj
    refine ⟨l', hsub _ _ hl', ho1, cc, ee, fz, ?_, ho3.sub hsub, ho4⟩
    rw [hold _ (Array.getElem?_eq_some_iff.1 ho2).1]
    exact ho2
  · by_cases e : j = st.n
    · subst e
      rw [Ren.set_at] at hj
      cases hj
      exact .inr ⟨rfl, by have := hB.size; simp only; omega, by rw [hsz]; simp only; omega⟩
    · simp only [Ren.set, e, if_false] at hj
      rcases h.place j l' hj with ⟨a, b⟩ | ⟨a, b, c⟩
      · exact .inl ⟨a, by omega⟩
      · exact .inr ⟨a, b, by omega⟩
  · exact h.alias j k o o' l l' hj hk (hobj j o l hj hlj).1 (hobj k o' l' hk hlk).1 hown hbk
  · by_cases e : k = st.n
    · subst e
      simp only [St.setCh, if_true, Option.some.injEq] at hk
      subst hk
      exact ⟨_, Ren.set_at _ _ _, rfl, rfl, by have := hB.size; simp only; omega, hB.size, ⟨t, hn2⟩, #[], 0, 0, hn1, CR.nil _⟩
    · simp only [St.setCh, e, if_false] at hk
      exact h1.chan k ck hk
  · by_cases e : k = st.n
    · subst e
      rw [Ren.set_at] at k2
      cases k2
      have := (hobj j o l' k3 k4).2
      simp only
      omega
    · simp only [St.setCh, e, if_false] at k1
      exact h1.sep k ck lk j o l' k1 k2 k3 k4
  · have far : ∀ m cm lm, st.ch m = some cm → (σ.set st.n ⟨w.heap.size + 1, 0, w.heap.size, 0, true⟩) m = some lm → lm.blk < w.heap.size ∧ lm.lim < w.heap.size := fun m cm lm a b => by
      obtain ⟨l2, hl2, -, -, -, -, ⟨e', g5⟩, buf, s', q', g6, -⟩ := h.inbs.chan m cm a
      have := hsub m l2 hl2
      rw [b] at this
      cases this
      exact ⟨(Array.getElem?_eq_some_iff.1 g5).1, (Array.getElem?_eq_some_iff.1 g6).1⟩
    by_cases e : k = st.n
    · subst e
      have e2 : j ≠ st.n := fun e => hne e.symm
      simp only [St.setCh, e2, if_false] at k2
      rw [Ren.set_at] at k3
      cases k3
      have := far j cj lj k2 k4
      simp only
      omega
    · simp only [St.setCh, e, if_false] at k1
      by_cases e2 : j = st.n
      · subst e2
        rw [Ren.set_at] at k4
        cases k4
        have := far k ck lk k1 k3
        simp only
        omega
      · simp only [St.setCh, e2, if_false] at k2
        exact h1.dis k j ck cj lk lj hne k1 k2 k3 k4
/-- The inbox in memory, as the walks want it. -/
theorem Sim.inbAt {P : Program} {w0 w : World} {σ : Ren} {st : St} (h : Sim P w0 σ st w) {i : Nat} {c : AInb} (hch : st.ch i = some c) : ∃ l buf s q, σ i = some l ∧ l.base = 0 ∧ Qa.InbAt w l.blk l.lim c.cap buf c.closed s q ∧ CR σ c.row buf.toList := by
  obtain ⟨l, hl, g1, g2, g3, g4, g5, buf, s, q, g6, g7⟩ := h.inbs.chan i c hch
  exact ⟨l, buf, s, q, hl, g2, ⟨g5, g6⟩, g7⟩
end Go.Proofs.Ytlindddionbpkaa.Ra
