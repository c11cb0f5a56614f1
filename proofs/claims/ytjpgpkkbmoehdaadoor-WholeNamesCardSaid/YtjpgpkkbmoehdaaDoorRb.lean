/- What memory does to the names. -/
import Derived.Test.YtjpgpkkbmoehdaaDoorRa
namespace Go.Proofs.YtjpgpkkbmoehdaaDoor.Ra
open Go Go.RowKit
set_option linter.unusedVariables false
set_option linter.unusedSimpArgs false
section
variable {P : Program} {w0 : World} {σ : Ren} {st : St} {w : World}

theorem ObjOK.step {l : Loc} {o : AObj} {w' : World} {σ' : Ren} (h : ObjOK P σ w l o) (hs : Sub σ σ') (hb : w'.heap[l.blk]? = w.heap[l.blk]?) : ObjOK P σ' w' l o := by
  obtain ⟨h1, c, e, fz, h2, h3, h4⟩ := h
  exact ⟨h1, c, e, fz, hb.trans h2, h3.sub hs, h4⟩
theorem Sim.lt (h : Sim P w0 σ st w) {i : Nat} {l : Loc} (hi : σ i = some l) : l.blk < w.heap.size := by
  rcases h.place i l hi with h | h
  · exact h.2
  · exact h.2.2
theorem Sim.drew (h : Sim P w0 σ st w) : Sim P w0 σ st w.drew :=
  ⟨h.below.drew, h.dom, h.obj, h.place, h.alias, h.init, h.inbs.step (Sub.refl σ) rfl (fun _ _ _ _ _ _ => ⟨rfl, rfl⟩) (fun j o l' a b => .inl ⟨j, o, l', a, b, rfl⟩)⟩
/-- Only what is told of the store may fall away. -/
theorem Sim.bump (h : Sim P w0 σ st w) (k : Nat) : Sim P w0 σ (st.bump k) w :=
  ⟨h.below, fun i hi => h.dom i (by simp only [St.bump] at hi; omega), h.obj, h.place, h.alias, h.init, h.inbs.step (Sub.refl σ) rfl (fun _ _ _ _ _ _ => ⟨rfl, rfl⟩) (fun j o l' a b => .inl ⟨j, o, l', a, b, rfl⟩)⟩
def Ren.set (σ : Ren) (i : Nat) (l : Loc) : Ren := fun j => if j = i then some l else σ j
theorem Ren.set_sub (σ : Ren) {i : Nat} (hi : σ i = none) (l : Loc) : Sub σ (σ.set i l) := fun j m hj => by
  have : j ≠ i := fun e => by rw [e, hi] at hj; cases hj
  simp [Ren.set, this, hj]
theorem Ren.set_at (σ : Ren) (i : Nat) (l : Loc) : (σ.set i l) i = some l := by simp [Ren.set]
theorem Inbs.row (h : Inbs w0 σ st w) {i : Nat} {o : AObj} {l : Loc} (hi : st.get i = some o) (hl : σ i = some l) (hown : l.own = true) {c0 : Array Value} {e0 : TypeId} {fz0 : Nat × Nat} (hb : w.heap[l.blk]? = some (.cells c0 e0 fz0)) {w' : World} (hw : ∀ k, k ≠ l.blk → w'.heap[k]? = w.heap[k]?) :
    ∀ k cc lk, st.ch k = some cc → σ k = some lk → InbOK w0 σ w lk cc → w'.heap[lk.blk]? = w.heap[lk.blk]? ∧ w'.heap[lk.lim]? = w.heap[lk.lim]? := by
  intro k cc lk h1 h2 h3
  refine ⟨hw _ (fun e => h.sep k cc lk i o l h1 h2 hi hl e.symm), hw _ (fun e => ?_)⟩
  obtain ⟨-, -, -, -, -, buf, s, q, g6, -⟩ := h3
  rw [e, hb] at g6
  cases g6
/-- A new block. -/
theorem Sim.new (h : Sim P w0 σ st w) {id : Nat} (hid : σ id = none) (hn : id < st.n) {xs : List AV} {c : Array Value} {e : TypeId} {s : Nat} (hs : (P.info? e).map (·.size) = some s)
    (hc : CR σ xs (c.toList.take xs.length)) (fz : Nat × Nat) (own : Bool) (g : Nat) (hf : own = true → fz = (0, 0)) :
    Sim P w0 (σ.set id ⟨w.heap.size, 0, c.size, s, own⟩) (st.put id ⟨xs, e, own, g⟩) (w.alloc (.cells c e fz)) := by
  have hsub := Ren.set_sub σ hid ⟨w.heap.size, 0, c.size, s, own⟩
  have hold : ∀ k, k < w.heap.size → (w.alloc (.cells c e fz)).heap[k]? = w.heap[k]? := fun k hk => Below.heap_alloc w _ k hk
  refine ⟨h.below.alloc (h.below.size) _, fun i hi => ?_, fun i o hi => ?_, fun i l hi => ?_, fun i j o o' l l' hi hj hli hlj hown hblk => ?_, fun g hg => hsub _ _ (h.init g hg), h.inbs.step hsub rfl (fun i c l _ _ q => by
    obtain ⟨-, -, -, -, ⟨e', g5⟩, buf, s', q', g6, -⟩ := q
    exact ⟨hold _ (Array.getElem?_eq_some_iff.1 g5).1, hold _ (Array.getElem?_eq_some_iff.1 g6).1⟩) (fun j o l' a b => by
    by_cases e1 : j = id
    · subst e1
      rw [Ren.set_at] at b
      cases b
      exact .inr (Nat.le_refl _)
    · simp only [St.put, e1, if_false] at a
      simp only [Ren.set, e1, if_false] at b
      exact .inl ⟨j, o, l', a, b, rfl⟩)⟩
  · have : i ≠ id := by simp only [St.put] at hi; omega
    simp only [Ren.set, this, if_false]
    exact h.dom i hi
  · by_cases e1 : i = id
    · subst e1
      simp only [St.put, if_true, Option.some.injEq] at hi
      subst hi
      refine ⟨_, Ren.set_at _ _ _, rfl, c, e, fz, heap_alloc_new w _, ?_, fun ho => ⟨hf ho, rfl, rfl, hs, ?_⟩⟩
      · simpa using hc.sub hsub
      · have := hc.1
        simp only [List.length_take, Array.length_toList] at this
        simp only [Nat.zero_add]
        omega
    · simp only [St.put, e1, if_false] at hi
      obtain ⟨l, hl, hob⟩ := h.obj i o hi
      exact ⟨l, hsub i l hl, hob.step hsub (hold _ (h.lt hl))⟩
  · by_cases e1 : i = id
    · subst e1
      rw [Ren.set_at] at hi
      cases hi
      cases own with
      | true => exact .inr ⟨rfl, h.below.size, by simp⟩
      | false => exact .inl ⟨rfl, by simp⟩
    · simp only [Ren.set, e1, if_false] at hi
      rcases h.place i l hi with h1 | h1
      · exact .inl ⟨h1.1, by have := h1.2; simp; omega⟩
      · exact .inr ⟨h1.1, h1.2.1, by have := h1.2.2; simp; omega⟩
  · by_cases e1 : i = id
    · by_cases e2 : j = id
      · subst e1; subst e2
        rw [hi] at hj
        cases hj
        rw [hli] at hlj
        cases hlj
        exact ⟨rfl, rfl⟩
      · subst e1
        rw [Ren.set_at] at hli
        cases hli
        simp only [Ren.set, e2, if_false] at hlj
        have := h.lt hlj
        simp only at hblk
        omega
    · by_cases e2 : j = id
      · subst e2
        rw [Ren.set_at] at hlj
        cases hlj
        simp only [Ren.set, e1, if_false] at hli
        have := h.lt hli
        simp only at hblk
        omega
      · simp only [St.put, e1, e2, if_false] at hi hj
        simp only [Ren.set, e1, e2, if_false] at hli hlj
        exact h.alias i j o o' l l' hi hj hli hlj hown hblk
theorem below_setRow {B : Nat} {a w : World} (h : Below B a w) {g : Nat} (hg : B ≤ g) (c : Array Value) : Below B a (w.setRow g c) :=
  ⟨h.os, h.tape, h.output, by rw [setRow_size]; exact h.size, fun k hk => (setRow_other w g k c (by omega)).trans (h.block k hk)⟩
theorem touch_inv {g off n j : Nat} {o : AObj} (h : (st.touch g off n).get j = some o) : ∃ y, st.get j = some y ∧ o.grp = y.grp ∧ o.elem = y.elem ∧ o.own = y.own ∧ ((y.grp = g ∧ o.cells = topR y.cells off n) ∨ (y.grp ≠ g ∧ o = y)) := by
  simp only [St.touch] at h
  obtain ⟨y, hy, rfl⟩ := Option.map_eq_some_iff.1 h
  refine ⟨y, hy, ?_⟩
  by_cases e : y.grp = g
  · rw [if_pos e]; exact ⟨rfl, rfl, rfl, .inl ⟨e, rfl⟩⟩
  · rw [if_neg e]; exact ⟨rfl, rfl, rfl, .inr ⟨e, rfl⟩⟩
/-- A row is written, within some places of an object: what is told of the others, by groups. -/
theorem Sim.others (h : Sim P w0 σ st w) {i : Nat} {o : AObj} {l : Loc} (hi : st.get i = some o) (hl : σ i = some l) (hown : l.own = true) {c0 c : Array Value} {e0 : TypeId} {fz0 : Nat × Nat} (hb : w.heap[l.blk]? = some (.cells c0 e0 fz0)) (hsz : c.size = c0.size)
    {off n : Nat} (hc : ∀ q, (q < l.base + off ∨ l.base + off + n ≤ q) → c[q]? = c0[q]?) {σ' : Ren} (hs : Sub σ σ') {j : Nat} {o' : AObj} (hj : (st.touch o.grp off n).get j = some o') :
    ∃ l', σ j = some l' ∧ ObjOK P σ' (w.setRow l.blk c) l' o' := by
  obtain ⟨y, hy, e1, e2, e3, hcase⟩ := touch_inv hj
  obtain ⟨l', hl', hob⟩ := h.obj j y hy
  refine ⟨l', hl', ?_⟩
  by_cases hblk : l.blk = l'.blk
  · obtain ⟨g1, g2⟩ := h.alias i j o y l l' hi hy hl hl' hown hblk
    rcases hcase with ⟨_, hcells⟩ | ⟨hne, _⟩
    · obtain ⟨h1, c1, e4, fz1, h2, h3, h4⟩ := hob
      rw [← hblk, hb] at h2
      cases h2
      refine ⟨by rw [e3]; exact h1, c, e0, fz0, by rw [← hblk]; exact setRow_heap w l.blk _ c _ _ hb, ?_, fun ho => ?_⟩
      · rw [hcells, topR_len]
        have hlen := h3.1
        simp only [List.length_take, List.length_drop, Array.length_toList] at hlen
        refine (h3.sub hs).topR off n (by simp only [List.length_take, List.length_drop, Array.length_toList, hsz]) (fun q hq => ?_)
        simp only [List.getElem?_take, List.getElem?_drop, Array.getElem?_toList]
        split
        · exact hc _ (by rw [g2]; omega)
        · rfl
      · obtain ⟨k1, k2, k3, k4, k5⟩ := h4 ho
        exact ⟨k1, k2.trans e2.symm, by rw [hsz]; exact k3, k4, by rw [hsz, hcells, topR_len]; exact k5⟩
    · exact absurd g1.symm hne
  · have hoth := setRow_other w l.blk l'.blk c (fun e => hblk e.symm)
    rcases hcase with ⟨_, hcells⟩ | ⟨_, rfl⟩
    · obtain ⟨h1, c1, e4, fz1, h2, h3, h4⟩ := hob
      refine ⟨by rw [e3]; exact h1, c1, e4, fz1, hoth.trans h2, ?_, fun ho => ?_⟩
      · rw [hcells, topR_len]
        exact (h3.sub hs).topR off n rfl (fun _ _ => rfl)
      · obtain ⟨k1, k2, k3, k4, k5⟩ := h4 ho
        exact ⟨k1, k2.trans e2.symm, k3, k4, by rw [hcells, topR_len]; exact k5⟩
    · exact hob.step hs hoth
theorem Sim.touched (h : Sim P w0 σ st w) (g off n : Nat) : Sim P w0 σ (st.touch g off n) w := by
  refine ⟨h.below, h.dom, fun j o hj => ?_, h.place, fun i j o o' l l' hi hj hli hlj ho hb => ?_, h.init, h.inbs.step (Sub.refl σ) rfl (fun _ _ _ _ _ _ => ⟨rfl, rfl⟩) (fun j o l' a b => by
    obtain ⟨y, hy, -⟩ := touch_inv a
    exact .inl ⟨j, y, l', hy, b, rfl⟩)⟩
  · obtain ⟨y, hy, e1, e2, e3, hcase⟩ := touch_inv hj
    obtain ⟨l', hl', h1, c1, e4, fz1, h2, h3, h4⟩ := h.obj j y hy
    rcases hcase with ⟨_, hcells⟩ | ⟨_, rfl⟩
    · refine ⟨l', hl', by rw [e3]; exact h1, c1, e4, fz1, h2, ?_, fun ho => ?_⟩
      · rw [hcells, topR_len]
        exact h3.topR off n rfl (fun _ _ => rfl)
      · obtain ⟨k1, k2, k3, k4, k5⟩ := h4 ho
        exact ⟨k1, k2.trans e2.symm, k3, k4, by rw [hcells, topR_len]; exact k5⟩
    · exact ⟨l', hl', h1, c1, e4, fz1, h2, h3, h4⟩
  · obtain ⟨y, hy, e1, _⟩ := touch_inv hi
    obtain ⟨z, hz, e2, _⟩ := touch_inv hj
    rw [e1, e2]
    exact h.alias i j y z l l' hy hz hli hlj ho hb
/-- A store into an object. -/
theorem Sim.write (h : Sim P w0 σ st w) {i : Nat} {o : AObj} {l : Loc} (hi : st.get i = some o) (hl : σ i = some l) (hown : l.own = true) {c0 : Array Value} {e0 : TypeId} {fz0 : Nat × Nat} (hb : w.heap[l.blk]? = some (.cells c0 e0 fz0))
    {xs : List AV} {c : Array Value} {off n : Nat} (hsz : c.size = c0.size) (hlen : xs.length = o.cells.length) (hc0 : ∀ q, (q < l.base + off ∨ l.base + off + n ≤ q) → c[q]? = c0[q]?) (hc : CR σ xs ((c.toList.drop l.base).take xs.length)) :
    Sim P w0 σ ((st.touch o.grp off n).put i { o with cells := xs }) (w.setRow l.blk c) := by
  obtain ⟨l2, hl2, hob⟩ := h.obj i o hi
  rw [hl] at hl2
  cases hl2
  obtain ⟨h1, c1, e1, fz1, h2, h3, h4⟩ := hob
  rw [hb] at h2
  cases h2
  have hp := h.place i l hl
  rcases hp with hp | hp
  · rw [hown] at hp; cases hp.1
  refine ⟨below_setRow h.below hp.2.1 c, h.dom, fun j o' hj => ?_, fun j l' hj => ?_, fun j k o' o'' l' l'' hj hk hlj hlk ho hbk => ?_, h.init, h.inbs.step (Sub.refl σ) rfl (h.inbs.row hi hl hown hb fun k hk => setRow_other w l.blk k c hk) (fun j o' l' a b => by
    by_cases e : j = i
    · subst e
      exact .inl ⟨j, o, l', hi, b, rfl⟩
    · simp only [St.put, e, if_false] at a
      obtain ⟨y, hy, -⟩ := touch_inv a
      exact .inl ⟨j, y, l', hy, b, rfl⟩)⟩
  · by_cases e : j = i
    · subst e
      simp only [St.put, if_true, Option.some.injEq] at hj
      subst hj
      refine ⟨l, hl, h1, c, e0, fz0, setRow_heap w l.blk _ c _ _ hb, hc, fun ho => ?_⟩
      obtain ⟨g1, g2, g3, g4, g5⟩ := h4 ho
      exact ⟨g1, g2, by rw [hsz]; exact g3, g4, by rw [hsz]; simp only [hlen]; exact g5⟩
    · simp only [St.put, e, if_false] at hj
      exact h.others hi hl hown hb hsz hc0 (Sub.refl σ) hj
  · rw [setRow_size]
    exact h.place j l' hj
  · have live : ∀ {q : Nat} {x : AObj}, ((st.touch o.grp off n).put i { o with cells := xs }).get q = some x → ∃ y, st.get q = some y ∧ x.grp = y.grp := by
      intro q x hq
      by_cases e : q = i
      · subst e
        simp only [St.put, if_true, Option.some.injEq] at hq
        exact ⟨o, hi, by rw [← hq]⟩
      · simp only [St.put, e, if_false] at hq
        obtain ⟨y, hy, e1, _⟩ := touch_inv hq
        exact ⟨y, hy, e1⟩
    obtain ⟨y, hy, ey⟩ := live hj
    obtain ⟨z, hz, ez⟩ := live hk
    rw [ey, ez]
    exact h.alias j k y z l' l'' hy hz hlj hlk ho hbk
/-- An append that finds room, to all that is told of a row: a name more for the row. -/
theorem Sim.extend (h : Sim P w0 σ st w) {i : Nat} {o : AObj} {l : Loc} (hi : st.get i = some o) (hl : σ i = some l) (hown : l.own = true) {c0 : Array Value} {e0 : TypeId} {fz0 : Nat × Nat} (hb : w.heap[l.blk]? = some (.cells c0 e0 fz0))
    {id : Nat} (hid : σ id = none) (hn : id < st.n) {xs : List AV} {c : Array Value} {off n : Nat} (hsz : c.size = c0.size) (hlen : l.base + xs.length ≤ c.size) (hc0 : ∀ q, (q < l.base + off ∨ l.base + off + n ≤ q) → c[q]? = c0[q]?) (hc : CR σ xs ((c.toList.drop l.base).take xs.length)) :
    Sim P w0 (σ.set id ⟨l.blk, l.base, l.lim, l.esz, true⟩) ((st.touch o.grp off n).put id ⟨xs, o.elem, true, o.grp⟩) (w.setRow l.blk c) := by
  obtain ⟨l2, hl2, hob⟩ := h.obj i o hi
  rw [hl] at hl2
  cases hl2
  obtain ⟨h1, c1, e1, fz1, h2, h3, h4⟩ := hob
  rw [hb] at h2
  cases h2
  obtain ⟨g1, g2, g3, g4, g5⟩ := h4 hown
  have hp := h.place i l hl
  rcases hp with hp | hp
  · rw [hown] at hp; cases hp.1
  have hsub := Ren.set_sub σ hid ⟨l.blk, l.base, l.lim, l.esz, true⟩
  refine ⟨below_setRow h.below hp.2.1 c, fun j hj => ?_, fun j o' hj => ?_, fun j l' hj => ?_, fun j k o' o'' l' l'' hj hk hlj hlk ho hbk => ?_, fun g hg => hsub _ _ (h.init g hg), h.inbs.step hsub rfl (h.inbs.row hi hl hown hb fun k hk => setRow_other w l.blk k c hk) (fun j o' l' a b => by
    by_cases e : j = id
    · subst e
      rw [Ren.set_at] at b
      cases b
      exact .inl ⟨i, o, l, hi, hl, rfl⟩
    · simp only [St.put, e, if_false] at a
      simp only [Ren.set, e, if_false] at b
      obtain ⟨y, hy, -⟩ := touch_inv a
      exact .inl ⟨j, y, l', hy, b, rfl⟩)⟩
  · have : j ≠ id := by simp only [St.put, St.touch] at hj; omega
    simp only [Ren.set, this, if_false]
    exact h.dom j hj
  · by_cases e : j = id
    · subst e
      simp only [St.put, if_true, Option.some.injEq] at hj
      subst hj
      exact ⟨_, Ren.set_at _ _ _, rfl, c, e0, fz0, setRow_heap w l.blk _ c _ _ hb, hc.sub hsub, fun _ => ⟨g1, g2, by rw [hsz]; exact g3, g4, hlen⟩⟩
    · simp only [St.put, e, if_false] at hj
      obtain ⟨l', hl', hob'⟩ := h.others hi hl hown hb hsz hc0 hsub hj
      exact ⟨l', hsub j l' hl', hob'⟩
  · rw [setRow_size]
    by_cases e : j = id
    · subst e
      rw [Ren.set_at] at hj
      cases hj
      exact .inr ⟨rfl, hp.2.1, hp.2.2⟩
    · simp only [Ren.set, e, if_false] at hj
      exact h.place j l' hj
  · have live : ∀ {q : Nat} {x : AObj}, q ≠ id → ((st.touch o.grp off n).put id ⟨xs, o.elem, true, o.grp⟩).get q = some x → ∃ y, st.get q = some y ∧ x.grp = y.grp := by
      intro q x hne hq
      simp only [St.put, hne, if_false] at hq
      obtain ⟨y, hy, e1, _⟩ := touch_inv hq
      exact ⟨y, hy, e1⟩
    by_cases e1 : j = id
    · subst e1
      rw [Ren.set_at] at hlj
      cases hlj
      simp only [St.put, if_true, Option.some.injEq] at hj
      by_cases e2 : k = j
      · subst e2
        rw [Ren.set_at] at hlk
        cases hlk
        simp only [St.put, if_true, Option.some.injEq] at hk
        rw [← hj, ← hk]
        exact ⟨rfl, rfl⟩
      · obtain ⟨y, hy, ey⟩ := live e2 hk
        simp only [Ren.set, e2, if_false] at hlk
        have := h.alias i k o y l l'' hi hy hl hlk hown hbk
        rw [ey, ← hj]
        exact this
    · obtain ⟨y, hy, ey⟩ := live e1 hj
      simp only [Ren.set, e1, if_false] at hlj
      by_cases e2 : k = id
      · subst e2
        rw [Ren.set_at] at hlk
        cases hlk
        simp only [St.put, if_true, Option.some.injEq] at hk
        have := h.alias j i y o l' l hy hi hlj hl ho hbk
        rw [ey, ← hk]
        exact this
      · obtain ⟨z, hz, ez⟩ := live e2 hk
        simp only [Ren.set, e2, if_false] at hlk
        rw [ey, ez]
        exact h.alias j k y z l' l'' hy hz hlj hlk ho hbk
theorem kill_inv {g j : Nat} {o : AObj} (h : (st.kill g).get j = some o) : st.get j = some o ∧ o.grp ≠ g := by
  simp only [St.kill] at h
  obtain ⟨y, hy, h2⟩ := Option.bind_eq_some_iff.1 h
  split at h2
  · cases h2
  · rename_i hne
    cases h2
    exact ⟨hy, hne⟩
theorem Sim.kill (h : Sim P w0 σ st w) (g : Nat) : Sim P w0 σ (st.kill g) w :=
  ⟨h.below, h.dom, fun j o hj => h.obj j o (kill_inv hj).1, h.place, fun j k o o' l l' hj hk => h.alias j k o o' l l' (kill_inv hj).1 (kill_inv hk).1, h.init, h.inbs.step (Sub.refl σ) rfl (fun _ _ _ _ _ _ => ⟨rfl, rfl⟩) (fun j o l' a b => .inl ⟨j, o, l', (kill_inv a).1, b, rfl⟩)⟩
/-- An append that finds room, to the end of a row: the elder names fall away. -/
theorem Sim.extendCut (h : Sim P w0 σ st w) {i : Nat} {o : AObj} {l : Loc} (hi : st.get i = some o) (hl : σ i = some l) (hown : l.own = true) {c0 : Array Value} {e0 : TypeId} {fz0 : Nat × Nat} (hb : w.heap[l.blk]? = some (.cells c0 e0 fz0))
    {id : Nat} (hid : σ id = none) (hn : id < st.n) {xs : List AV} {c : Array Value} {off : Nat} (g : Nat) (hsz : c.size = c0.size) (hlen : l.base + off + xs.length ≤ c.size) (hc : CR σ xs ((c.toList.drop (l.base + off)).take xs.length)) :
    Sim P w0 (σ.set id ⟨l.blk, l.base + off, l.lim, l.esz, true⟩) ((st.kill o.grp).put id ⟨xs, o.elem, true, g⟩) (w.setRow l.blk c) := by
  obtain ⟨l2, hl2, hob⟩ := h.obj i o hi
  rw [hl] at hl2
  cases hl2
  obtain ⟨h1, c1, e1, fz1, h2, h3, h4⟩ := hob
  rw [hb] at h2
  cases h2
  obtain ⟨g1, g2, g3, g4, g5⟩ := h4 hown
  have hp := h.place i l hl
  rcases hp with hp | hp
  · rw [hown] at hp; cases hp.1
  have hsub := Ren.set_sub σ hid ⟨l.blk, l.base + off, l.lim, l.esz, true⟩
  have other : ∀ {j : Nat} {y : AObj} {l' : Loc}, st.get j = some y → σ j = some l' → y.grp ≠ o.grp → l'.blk ≠ l.blk := by
    intro j y l' hy hl' hne hbk
    exact hne (h.alias i j o y l l' hi hy hl hl' hown hbk.symm).1.symm
  have live : ∀ {q : Nat} {x : AObj}, q ≠ id → ((st.kill o.grp).put id ⟨xs, o.elem, true, g⟩).get q = some x → st.get q = some x ∧ x.grp ≠ o.grp := by
    intro q x hne hq
    simp only [St.put, hne, if_false] at hq
    exact kill_inv hq
  refine ⟨below_setRow h.below hp.2.1 c, fun j hj => ?_, fun j o' hj => ?_, fun j l' hj => ?_, fun j k o' o'' l' l'' hj hk hlj hlk ho hbk => ?_, fun g hg => hsub _ _ (h.init g hg), h.inbs.step hsub rfl (h.inbs.row hi hl hown hb fun k hk => setRow_other w l.blk k c hk) (fun j o' l' a b => by
    by_cases e : j = id
    · subst e
      rw [Ren.set_at] at b
      cases b
      exact .inl ⟨i, o, l, hi, hl, rfl⟩
    · simp only [Ren.set, e, if_false] at b
      exact .inl ⟨j, o', l', (live e a).1, b, rfl⟩)⟩
  · have : j ≠ id := by simp only [St.put, St.kill] at hj; omega
    simp only [Ren.set, this, if_false]
    exact h.dom j hj
  · by_cases e : j = id
    · subst e
      simp only [St.put, if_true, Option.some.injEq] at hj
      subst hj
      exact ⟨_, Ren.set_at _ _ _, rfl, c, e0, fz0, setRow_heap w l.blk _ c _ _ hb, hc.sub hsub, fun _ => ⟨g1, g2, by rw [hsz]; exact g3, g4, hlen⟩⟩
    · obtain ⟨hy, hne⟩ := live e hj
      obtain ⟨l', hl', hob'⟩ := h.obj j o' hy
      exact ⟨l', hsub j l' hl', hob'.step hsub (setRow_other w l.blk l'.blk c (other hy hl' hne))⟩
  · rw [setRow_size]
    by_cases e : j = id
    · subst e
      rw [Ren.set_at] at hj
      cases hj
      exact .inr ⟨rfl, hp.2.1, hp.2.2⟩
    · simp only [Ren.set, e, if_false] at hj
      exact h.place j l' hj
  · by_cases e1 : j = id
    · subst e1
      rw [Ren.set_at] at hlj
      cases hlj
      by_cases e2 : k = j
      · subst e2
        rw [hj] at hk
        cases hk
        rw [Ren.set_at] at hlk
        cases hlk
        exact ⟨rfl, rfl⟩
      · obtain ⟨hy, hne⟩ := live e2 hk
        simp only [Ren.set, e2, if_false] at hlk
        exact absurd hbk.symm (other hy hlk hne)
    · obtain ⟨hy, hne⟩ := live e1 hj
      simp only [Ren.set, e1, if_false] at hlj
      by_cases e2 : k = id
      · subst e2
        rw [Ren.set_at] at hlk
        cases hlk
        exact absurd hbk (other hy hlj hne)
      · obtain ⟨hz, _⟩ := live e2 hk
        simp only [Ren.set, e2, if_false] at hlk
        exact h.alias j k o' o'' l' l'' hy hz hlj hlk ho hbk
/-- A row is marked: it is no longer one's own, the elder names fall away. -/
theorem Sim.mark (h : Sim P w0 σ st w) {i : Nat} {o : AObj} {l : Loc} (hi : st.get i = some o) (hl : σ i = some l) (hown : l.own = true) {c0 : Array Value} {e0 : TypeId} {fz0 : Nat × Nat} (hb : w.heap[l.blk]? = some (.cells c0 e0 fz0))
    {id : Nat} (hid : σ id = none) (hn : id < st.n) {w' : World} (fz : Nat × Nat) (q1 : w'.os = w.os) (q2 : w'.tape = w.tape) (q3 : w'.output = w.output) (q4 : w'.heap.size = w.heap.size) (q5 : w'.heap[l.blk]? = some (.cells c0 e0 fz)) (q6 : ∀ k, k ≠ l.blk → w'.heap[k]? = w.heap[k]?) :
    Sim P w0 (σ.set id ⟨l.blk, l.base, l.lim, l.esz, false⟩) ((st.kill o.grp).put id ⟨o.cells, o.elem, false, id⟩) w' := by
  obtain ⟨l2, hl2, hob⟩ := h.obj i o hi
  rw [hl] at hl2
  cases hl2
  obtain ⟨h1, c1, e1, fz1, h2, h3, h4⟩ := hob
  rw [hb] at h2
  cases h2
  have hp := h.place i l hl
  rcases hp with hp | hp
  · rw [hown] at hp; cases hp.1
  have hsub := Ren.set_sub σ hid ⟨l.blk, l.base, l.lim, l.esz, false⟩
  have other : ∀ {j : Nat} {y : AObj} {l' : Loc}, st.get j = some y → σ j = some l' → y.grp ≠ o.grp → l'.blk ≠ l.blk := by
    intro j y l' hy hl' hne hbk
    exact hne (h.alias i j o y l l' hi hy hl hl' hown hbk.symm).1.symm
  have live : ∀ {q : Nat} {x : AObj}, q ≠ id → ((st.kill o.grp).put id ⟨o.cells, o.elem, false, id⟩).get q = some x → st.get q = some x ∧ x.grp ≠ o.grp := by
    intro q x hne hq
    simp only [St.put, hne, if_false] at hq
    simp only [St.kill] at hq
    obtain ⟨y, hy, h2⟩ := Option.bind_eq_some_iff.1 hq
    split at h2
    · cases h2
    · rename_i hne
      cases h2
      exact ⟨hy, hne⟩
  have hB := h.below
  refine ⟨⟨q1.trans hB.os, q2.trans hB.tape, q3.trans hB.output, by rw [q4]; exact hB.size, fun k hk => (q6 k (by omega)).trans (hB.block k hk)⟩, fun j hj => ?_, fun j o' hj => ?_, fun j l' hj => ?_, fun j k o' o'' l' l'' hj hk hlj hlk ho hbk => ?_, fun g hg => hsub _ _ (h.init g hg), h.inbs.step hsub rfl (h.inbs.row hi hl hown hb q6) (fun j o' l' a b => by
    by_cases e : j = id
    · subst e
      rw [Ren.set_at] at b
      cases b
      exact .inl ⟨i, o, l, hi, hl, rfl⟩
    · simp only [Ren.set, e, if_false] at b
      exact .inl ⟨j, o', l', (live e a).1, b, rfl⟩)⟩
  · have : j ≠ id := by simp only [St.put, St.kill] at hj; omega
    simp only [Ren.set, this, if_false]
    exact h.dom j hj
  · by_cases e : j = id
    · subst e
      simp only [St.put, if_true, Option.some.injEq] at hj
      subst hj
      exact ⟨_, Ren.set_at _ _ _, rfl, c0, e0, fz, q5, h3.sub hsub, fun hf => by cases hf⟩
    · obtain ⟨hy, hne⟩ := live e hj
      obtain ⟨l', hl', hob'⟩ := h.obj j o' hy
      exact ⟨l', hsub j l' hl', hob'.step hsub (q6 _ (other hy hl' hne))⟩
  · rw [q4]
    by_cases e : j = id
    · subst e
      rw [Ren.set_at] at hj
      cases hj
      exact .inl ⟨rfl, hp.2.2⟩
    · simp only [Ren.set, e, if_false] at hj
      exact h.place j l' hj
  · by_cases e1 : j = id
    · subst e1
      rw [Ren.set_at] at hlj
      cases hlj
      cases ho
    · obtain ⟨hy, hne⟩ := live e1 hj
      simp only [Ren.set, e1, if_false] at hlj
      by_cases e2 : k = id
      · subst e2
        rw [Ren.set_at] at hlk
        cases hlk
        exact absurd hbk (other hy hlj hne)
      · obtain ⟨hz, _⟩ := live e2 hk
        simp only [Ren.set, e2, if_false] at hlk
        exact h.alias j k o' o'' l' l'' hy hz hlj hlk ho hbk
/-- What an object's cells are in memory. -/
theorem Sim.cell (h : Sim P w0 σ st w) {i : Nat} {o : AObj} {l : Loc} (hi : st.get i = some o) (hl : σ i = some l) {j : Nat} {x : AV} (hx : o.cells[j]? = some x) :
    ∃ v, w.cell? ⟨l.blk, l.base + j, none⟩ = some v ∧ VR σ x v := by
  obtain ⟨l2, hl2, h1, c, e, fz, h2, h3, _⟩ := h.obj i o hi
  rw [hl] at hl2
  cases hl2
  obtain ⟨v, hv, hr⟩ := h3.at hx
  refine ⟨v, ?_, hr⟩
  rw [cell_of_row w _ _ c e fz h2]
  rw [List.getElem?_take] at hv
  split at hv
  · rw [List.getElem?_drop] at hv
    simpa using hv
  · cases hv
/-- A stretch of an object's cells. -/
theorem Sim.range (h : Sim P w0 σ st w) {i : Nat} {o : AObj} {l : Loc} (hi : st.get i = some o) (hl : σ i = some l) {off n : Nat} (hn : off + n ≤ o.cells.length) :
    ∃ vs : List Value, vs.length = n ∧ CR σ ((o.cells.drop off).take n) vs ∧ ∀ j u, vs[j]? = some u → w.cell? ⟨l.blk, l.base + off + j, none⟩ = some u := by
  obtain ⟨l2, hl2, h1, c, e, fz, h2, h3, _⟩ := h.obj i o hi
  rw [hl] at hl2
  cases hl2
  have hlen := h3.1
  rw [List.length_take, List.length_drop] at hlen
  refine ⟨(((c.toList.drop l.base).take o.cells.length).drop off).take n, ?_, (h3.drop off).take n, fun j u hu => ?_⟩
  · simp only [List.length_take, List.length_drop]
    omega
  · rw [cell_of_row w _ _ c e fz h2]
    rw [List.getElem?_take] at hu
    split at hu
    · rw [List.getElem?_drop, List.getElem?_take] at hu
      split at hu
      · rw [List.getElem?_drop] at hu
        rw [← Nat.add_assoc] at hu
        simpa using hu
      · cases hu
    · cases hu
theorem add_at (b o j : Nat) : (⟨b, o, none⟩ : Addr).add j = ⟨b, o + j, none⟩ := by unfold Addr.add; split <;> simp_all
end
end Go.Proofs.YtjpgpkkbmoehdaaDoor.Ra
