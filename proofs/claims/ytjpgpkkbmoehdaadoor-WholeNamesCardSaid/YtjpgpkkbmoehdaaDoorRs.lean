/- Kinds of elements, by how their cells read; slices of them. -/
import Derived.Test.YtjpgpkkbmoehdaaDoorRp
namespace Go.Proofs.YtjpgpkkbmoehdaaDoor.Ra
open Go Go.RowKit
set_option linter.unusedVariables false
set_option linter.unusedSimpArgs false
theorem RdB.up {st st' : St} {K : Nat → Prop} {v : AV} {xs : List Int} (h : RdB st K v xs) (hk : Ext st st') : RdB st' K v xs := h.keep hk (fun _ _ h => h)
theorem OwB.up {st st' : St} {K : Nat → Prop} {v : AV} {xs : List Int} (h : OwB st K v xs) (hk : Ext st st') : OwB st' K v xs := h.keep hk (fun _ _ h => h)
/-- A kind of element: its cells, what they read as in a store, with all groups it reaches as told. -/
structure EK (α : Type) where
  s : Nat
  R : St → (Nat → Prop) → List AV → α → Prop
  keep : ∀ {st st' : St} {K G : Nat → Prop}, Keeps G st st' → (∀ g, K g → ¬ G g) → ∀ c x, R st K c x → R st' K c x
  mono : ∀ {st : St} {K K' : Nat → Prop}, (∀ g, K g → K' g) → ∀ c x, R st K c x → R st K' c x
  lt : ∀ {st : St} {K : Nat → Prop}, WF st → ∀ c x, R st K c x → R st (fun g => K g ∧ g < st.n) c x
  one : ∀ {st : St} {K : Nat → Prop} (c : List AV) (x : α), R st K c x → c.all AV.one = true
  len : ∀ {st : St} {K : Nat → Prop} (c : List AV) (x : α), R st K c x → c.length = s
variable {α : Type}
/-- A slice that reads as these elements. -/
def RdE (k : EK α) (st : St) (K : Nat → Prop) (v : AV) (xs : List α) : Prop := RdL st K k.s (k.R st K) v xs
/-- A row of one's own; what its elements reach lies in other groups. -/
def OwX (k : EK α) (st : St) (K : Nat → Prop) (L : Nat → Nat → Prop) (e : TypeId) (v : AV) (xs : List α) : Prop :=
  (xs = [] ∧ v = .pl (.slice none 0 0)) ∨ ∃ i g cs, v = .sl i 0 xs.length k.s ∧ st.get i = some ⟨cs, e, true, g⟩ ∧ K g ∧ cs.length = xs.length * k.s ∧ ∀ j x, xs[j]? = some x → k.R st (fun h => L j h ∧ h ≠ g) ((cs.drop (j * k.s)).take k.s) x
section
variable {k : EK α} {st st' : St} {K K' G : Nat → Prop} {L L' : Nat → Nat → Prop} {e : TypeId} {v : AV} {xs : List α}
theorem RdE.keep (h : RdE k st K v xs) (hk : Keeps G st st') (hd : ∀ g, K g → ¬ G g) : RdE k st' K v xs := RdL.keep h hk hd (fun c x => k.keep hk hd c x)
theorem RdE.up (h : RdE k st K v xs) (hk : Ext st st') : RdE k st' K v xs := h.keep hk (fun _ _ h => h)
theorem RdE.mono (h : RdE k st K v xs) (hk : ∀ g, K g → K' g) : RdE k st K' v xs := RdL.mono (RdL.keep h (Keeps.refl (fun _ => False) st) (fun _ _ h => h) (fun c x => k.mono hk c x)) hk
theorem RdE.lt (hw : WF st) (h : RdE k st K v xs) : RdE k st (fun g => K g ∧ g < st.n) v xs := RdL.lt hw (fun c x => k.lt hw c x) h
theorem RdE.solid (h : RdE k st K v xs) : v.solid = true := RdL.solid h
theorem OwX.keep (h : OwX k st K L e v xs) (hk : Keeps G st st') (hd : ∀ g, K g → ¬ G g) (hd' : ∀ j g, L j g → ¬ G g) : OwX k st' K L e v xs := by
  rcases h with h | ⟨i, g, cs, h1, h2, h3, h4, h5⟩
  · exact .inl h
  · exact .inr ⟨i, g, cs, h1, hk.get i _ h2 (hd _ h3), h3, h4, fun j x hx => k.keep hk (fun g' hg => hd' j g' hg.1) _ _ (h5 j x hx)⟩
theorem OwX.up (h : OwX k st K L e v xs) (hk : Ext st st') : OwX k st' K L e v xs := h.keep hk (fun _ _ h => h) (fun _ _ _ h => h)
theorem OwX.mono (h : OwX k st K L e v xs) (hk : ∀ g, K g → K' g) (hl : ∀ j g, L j g → L' j g) : OwX k st K' L' e v xs := by
  rcases h with h | ⟨i, g, cs, h1, h2, h3, h4, h5⟩
  · exact .inl h
  · exact .inr ⟨i, g, cs, h1, h2, hk _ h3, h4, fun j x hx => k.mono (fun g' hg => ⟨hl _ _ hg.1, hg.2⟩) _ _ (h5 j x hx)⟩
theorem OwX.lt (hw : WF st) (h : OwX k st K L e v xs) : OwX k st (fun g => K g ∧ g < st.n) (fun j g => L j g ∧ g < st.n) e v xs := by
  rcases h with h | ⟨i, g, cs, h1, h2, h3, h4, h5⟩
  · exact .inl h
  · exact .inr ⟨i, g, cs, h1, h2, ⟨h3, (hw i _ h2).2⟩, h4, fun j x hx => k.mono (fun g' hg => ⟨⟨hg.1.1, hg.2⟩, hg.1.2⟩) _ _ (k.lt hw _ _ (h5 j x hx))⟩
theorem OwX.rd (h : OwX k st K L e v xs) : RdE k st (fun g => K g ∨ ∃ j, L j g) v xs := by
  rcases h with ⟨h1, h2⟩ | ⟨i, g, cs, h1, h2, h3, h4, h5⟩
  · exact .inl ⟨h1, .inl ⟨_, _, h2⟩⟩
  · exact .inr ⟨i, 0, true, _, h1, h2, .inl h3, by simp [h4], fun j x hx => by simpa using k.mono (fun g' hg => .inr ⟨j, hg.1⟩) _ _ (h5 j x hx)⟩
theorem OwX.solid (h : OwX k st K L e v xs) : v.solid = true := h.rd.solid
theorem OwX.ne {x : α} (h : OwX k st K L e v (xs ++ [x])) : v ≠ .pl (.slice none 0 0) := by
  rcases h with ⟨h, _⟩ | ⟨i, g, cs, rfl, _⟩
  · simp at h
  · intro h; cases h
theorem OwX.grp (hw : WF st) (h : OwX k st K L e v xs) (hn : v ≠ .pl (.slice none 0 0)) : ∃ g, K g ∧ g < st.n := by
  rcases h with ⟨_, h⟩ | ⟨i, g, cs, _, h2, h3, _⟩
  · exact absurd h hn
  · exact ⟨g, h3, (hw i _ h2).2⟩
theorem OwX.nil : OwX k st K L e (.pl (.slice none 0 0)) [] := .inl ⟨rfl, rfl⟩
theorem OwX.new (i : Nat) {g : Nat} (hs : st.get i = some ⟨[], e, true, g⟩) (hK : K g) : OwX k st K L e (.sl i 0 0 k.s) [] := .inr ⟨i, g, [], rfl, hs, hK, by simp, fun j x hx => by simp at hx⟩
theorem OwX.get (h : OwX k st K L e v xs) (j : Nat) (hj : j < xs.length) : ∃ i g cs, v = .sl i 0 xs.length k.s ∧ st.get i = some ⟨cs, e, true, g⟩ ∧ K g ∧ cs.length = xs.length * k.s ∧ k.R st (fun h => L j h ∧ h ≠ g) ((cs.drop (j * k.s)).take k.s) xs[j] := by
  rcases h with ⟨rfl, _⟩ | ⟨i, g, cs, h1, h2, h3, h4, h5⟩
  · simp at hj
  · exact ⟨i, g, cs, h1, h2, h3, h4, h5 j _ (List.getElem?_eq_getElem hj)⟩
/-- One element's memory is written over. -/
theorem OwX.upd (h : OwX k st K L e v xs) {j : Nat} {i g : Nat} {cs : List AV} {x : α} (h1 : v = .sl i 0 xs.length k.s) (h2 : st.get i = some ⟨cs, e, true, g⟩) (hk : Keeps G st st') (hG : ∀ g, G g → L j g) (hKL : ∀ g, K g → ¬ L j g) (hdis : ∀ i g, L i g → L j g → i = j) (hx : k.R st' (fun h => L j h ∧ h ≠ g) ((cs.drop (j * k.s)).take k.s) x) : OwX k st' K L e v (xs.set j x) := by
  rcases h with ⟨_, h⟩ | ⟨i', g', cs', e1, e2, e3, e4, e5⟩
  · rw [h] at h1; cases h1
  · rw [e1] at h1
    cases h1
    rw [e2] at h2
    cases h2
    refine .inr ⟨i, g, cs, by rw [List.length_set]; exact e1, hk.get i _ e2 (fun hg => hKL _ e3 (hG _ hg)), e3, by rw [List.length_set]; exact e4, fun q y hq => ?_⟩
    rw [List.getElem?_set] at hq
    split at hq
    · rename_i hjq
      subst hjq
      split at hq
      · cases hq; exact hx
      · cases hq
    · rename_i hjq
      exact k.keep hk (fun g' hg hG' => hjq (hdis q g' hg.1 (hG _ hG')).symm) _ _ (e5 q y hq)
theorem RdE.len {P : Program} {t : TypeId} {b : Nat} (h : RdE k st K v xs) (ht : TF P t e k.s b) : alen P #[t] [v] = some (i64 xs.length) := RdL.len h ht
theorem RdE.at {P : Program} {t : TypeId} {b : Nat} (h : RdE k st K v xs) (ht : TF P t e k.s b) (kk : IntKind) (j : Nat) (hj : j < xs.length) :
    ∃ i off o, aindexAddr P t v (.pl (.int kk j)) = some (.ptr i off) ∧ st.get i = some o ∧ K o.grp ∧ off + k.s ≤ o.cells.length ∧ k.R st K ((o.cells.drop off).take k.s) xs[j] := RdL.at h ht kk j hj
/-- An element of several cells is loaded. -/
theorem RdE.load {P : Program} {t : TypeId} {b : Nat} {d : TypeDesc} (h : RdE k st K v xs) (ht : TF P t e k.s b) (hd : P.underlying e = some d) (ha : aggD d = true) (kk : IntKind) (j : Nat) (hj : j < xs.length) :
    ∃ p cs, aindexAddr P t v (.pl (.int kk j)) = some p ∧ p.solid = true ∧ aload P st e p = some (.agg cs) ∧ k.R st K cs xs[j] := by
  obtain ⟨i, off, o, h1, h2, h3, h4, h5⟩ := h.at ht kk j hj
  exact ⟨_, _, h1, rfl, load_agg hd ha ht.sz h2 h4, h5⟩
/-- .. of one cell. -/
theorem RdE.load1 {P : Program} {t : TypeId} {b : Nat} {d : TypeDesc} (h : RdE k st K v xs) (hs : k.s = 1) (ht : TF P t e k.s b) (hd : P.underlying e = some d) (ha : aggD d = false) (kk : IntKind) (j : Nat) (hj : j < xs.length) :
    ∃ p c, aindexAddr P t v (.pl (.int kk j)) = some p ∧ p.solid = true ∧ aload P st e p = some c ∧ k.R st K [c] xs[j] := by
  obtain ⟨i, off, o, h1, h2, h3, h4, h5⟩ := h.at ht kk j hj
  have hsz := ht.sz
  rw [hs] at h4 h5 hsz
  have hl : ((o.cells.drop off).take 1).length = 1 := by simp; omega
  match hc : (o.cells.drop off).take 1, hl with
  | [c], _ =>
    rw [hc] at h5
    exact ⟨_, c, h1, rfl, load_one hd ha hsz h2 h4 hc, h5⟩
end
/-- A slice of nothing known, one element. -/
theorem RdL.one {K : Nat → Prop} {s : Nat} {R : List AV → α → Prop} {cs : List AV} {y : α} (h : R cs y) (hl : cs.length = s) (st : St) {id : Nat} (hK : K id) (e : TypeId) : RdL (st.put id ⟨cs, e, true, id⟩) K s R (.sl id 0 1 s) [y] :=
  .inr ⟨id, 0, true, _, rfl, get_put _ _, hK, by simp [hl], fun j z hz => by
    cases j with
    | zero =>
      simp at hz
      subst hz
      simp only [Nat.zero_mul, Nat.add_zero, List.drop_zero]
      rw [List.take_of_length_le (by omega)]
      exact h
    | succ j => simp at hz⟩
/-- What stands behind 'append(v, x...)', v one's own. -/
theorem appE {P : Program} {st : St} {Kx : Nat → Prop} {t e : TypeId} {s b : Nat} {R : List AV → α → Prop} {v x : AV} {xs ns : List α} (ht : TF P t e s b) (id : Nat) {i0 g : Nat} {c0 : List AV} (hv : (xs = [] ∧ v = .pl (.slice none 0 0)) ∨ (v = .sl i0 0 xs.length s ∧ st.get i0 = some ⟨c0, e, true, g⟩ ∧ c0.length = xs.length * s)) (hx : RdL st Kx s R x ns) (hone : ∀ c y, R c y → c.all AV.one = true) (hb : (xs.length + ns.length) * b ≤ 140737488355328) (hm : xs.length + ns.length ≤ 140737488355328) :
    ∃ y s' cs, aappend P st id t v x = some (y, s') ∧ y.solid = true ∧ s'.n = st.n ∧ cs.length = ns.length * s ∧ (∀ j y, ns[j]? = some y → R ((cs.drop (j * s)).take s) y) ∧
      ((xs = [] ∧ v = .pl (.slice none 0 0) ∧ ((ns = [] ∧ y = v ∧ s' = st) ∨ (y = .sl id 0 ns.length s ∧ s' = st.put id ⟨cs, e, true, id⟩))) ∨
       (v = .sl i0 0 xs.length s ∧ y = .sl id 0 (xs.length + ns.length) s ∧ s' = (st.touch g (xs.length * s) (ns.length * s)).put id ⟨c0 ++ cs, e, true, g⟩)) := by
  obtain ⟨i5, z, hi, hsz, hby, hz, hzs⟩ := ht.inf
  have hp := ht.pos
  have hpart : ∀ (cs : List AV), cs.length = ns.length * s → (∀ j y, ns[j]? = some y → R ((cs.drop (j * s)).take s) y) → cs.all AV.one = true := by
    intro cs hl hr
    rw [List.all_eq_true]
    intro c hc
    obtain ⟨q, hq, rfl⟩ := List.mem_iff_getElem.1 hc
    have hj : q / s < ns.length := by rw [Nat.div_lt_iff_lt_mul hp]; omega
    have h1 := hone _ _ (hr (q / s) _ (List.getElem?_eq_getElem hj))
    rw [List.all_eq_true] at h1
    refine h1 _ ?_
    rw [List.mem_iff_getElem?]
    refine ⟨q % s, ?_⟩
    have h2 := Nat.mod_lt q hp
    have h3 := Nat.div_add_mod q s
    rw [List.getElem?_take, if_pos h2, List.getElem?_drop, show q / s * s + q % s = q by rw [Nat.mul_comm]; exact h3, List.getElem?_eq_getElem hq]
  have hsrc : ∃ cs, asrc P st i5.size x = some (cs, ns.length) ∧ cs.length = ns.length * s ∧ ∀ j y, ns[j]? = some y → R ((cs.drop (j * s)).take s) y := by
    rw [hsz]
    rcases hx with ⟨rfl, ⟨q, c, rfl⟩ | ⟨i, off, es, rfl⟩⟩ | ⟨i, off, es, o, rfl, h2, h3, h4, h5⟩
    · exact ⟨[], rfl, by simp, by simp⟩
    · exact ⟨[], rfl, by simp, by simp⟩
    · by_cases h0 : ns.length = 0
      · refine ⟨[], by simp [asrc, h0], by simp [h0], ?_⟩
        have : ns = [] := List.eq_nil_of_length_eq_zero h0
        subst this
        simp
      · refine ⟨(o.cells.drop off).take (ns.length * s), by simp only [asrc]; rw [if_neg h0, h2]; simp only; rw [if_pos h4], by simp; omega, fun j y hy => ?_⟩
        have hj : j < ns.length := (List.getElem?_eq_some_iff.1 hy).1
        have := h5 j y hy
        have hjs : j * s + s ≤ ns.length * s := by rw [← Nat.succ_mul]; exact Nat.mul_le_mul_right _ hj
        have e : (((o.cells.drop off).take (ns.length * s)).drop (j * s)).take s = (o.cells.drop (off + j * s)).take s := by
          apply List.ext_getElem?
          intro q
          simp only [List.getElem?_take, List.getElem?_drop]
          by_cases hq : q < s
          · rw [if_pos hq, if_pos hq, if_pos (by omega), Nat.add_assoc]
          · rw [if_neg hq, if_neg hq]
        rw [e]
        exact this
  obtain ⟨cs, hsrc, hcl, hcr⟩ := hsrc
  have hall := hpart cs hcl hcr
  rcases hv with ⟨h1, h2⟩ | ⟨h1, h2, h4⟩
  · subst h1
    subst h2
    by_cases h0 : ns.length = 0
    · have : ns = [] := List.eq_nil_of_length_eq_zero h0
      subst this
      exact ⟨.pl (.slice none 0 0), st, cs, by simp only [aappend, ht.sl, hi, hsrc]; rfl, rfl, rfl, hcl, hcr, .inl ⟨rfl, rfl, .inl ⟨rfl, rfl, rfl⟩⟩⟩
    · refine ⟨.sl id 0 ns.length s, st.put id ⟨cs, e, true, id⟩, cs, ?_, rfl, rfl, hcl, hcr, .inl ⟨rfl, rfl, .inr ⟨rfl, rfl⟩⟩⟩
      simp only [aappend, ht.sl, hi, hsrc]
      have hm' : ns.length ≤ maxLen := by simp only [maxLen]; simp only [List.length_nil] at hm; omega
      rw [if_neg h0, if_pos ⟨by omega, by rw [hz, hsz]; simp [hzs], by rw [hby]; simpa using hb, hm', hall⟩, hsz]
  · subst h1
    refine ⟨.sl id 0 (xs.length + ns.length) s, (st.touch g (xs.length * s) (ns.length * s)).put id ⟨c0 ++ cs, e, true, g⟩, cs, ?_, rfl, rfl, hcl, hcr, .inr ⟨rfl, rfl, rfl⟩⟩
    simp only [aappend, ht.sl, hi, hsrc, h2]
    have hm' : xs.length + ns.length ≤ maxLen := by simp only [maxLen]; omega
    rw [if_pos ⟨trivial, trivial, by omega, by rw [hz, hsz]; simp [hzs], by rw [hsz]; omega, by rw [hby]; exact hb, hm', hall⟩, hsz]
    simp
theorem cells_left {s : Nat} {c0 cs : List AV} {n j : Nat} (h : c0.length = n * s) (hj : j < n) : ((c0 ++ cs).drop (j * s)).take s = (c0.drop (j * s)).take s := by
  have hjs : j * s + s ≤ n * s := by rw [← Nat.succ_mul]; exact Nat.mul_le_mul_right _ hj
  apply List.ext_getElem?
  intro q
  simp only [List.getElem?_take, List.getElem?_drop]
  by_cases hq : q < s
  · rw [if_pos hq, if_pos hq, List.getElem?_append_left (by omega)]
  · rw [if_neg hq, if_neg hq]
theorem cells_right {s : Nat} {c0 cs : List AV} {n j : Nat} (h : c0.length = n * s) (hj : n ≤ j) : ((c0 ++ cs).drop (j * s)).take s = (cs.drop ((j - n) * s)).take s := by
  apply List.ext_getElem?
  intro q
  simp only [List.getElem?_take, List.getElem?_drop]
  by_cases hq : q < s
  · have h6 : n * s ≤ j * s := Nat.mul_le_mul_right _ hj
    rw [if_pos hq, if_pos hq, List.getElem?_append_right (by omega)]
    congr 1
    rw [h, Nat.sub_mul]
    omega
  · rw [if_neg hq, if_neg hq]
/-- 'append(v, x...)': v one's own, what x's elements reach lies elsewhere. -/
theorem arl_appX {P : Program} {sd : Bool} {ops : Array Oper} {n0 i : Nat} {o : Oper} {l : List Oper} {fr : AFr} {st : St} {Q : AFr → St → Prop} {t a c : Nat} {tt e : TypeId} {b : Nat} {k : EK α} {K0 Kx Kn K : Nat → Prop} {L0 L : Nat → Nat → Prop} {xs ns : List α} (ht : TF P tt e k.s b) (hd : o.dst = some t) (hw : awanted ops fr o = true) (ho : o.op = .call ⟨.builtin .append, #[.tmp a, .tmp c], #[tt, tt]⟩)
    (hv : OwX k st K0 L0 e (fr a) xs) (hx : RdL st Kx k.s (k.R st Kn) (fr c) ns) (hdis : ∀ g, K0 g → ¬ Kn g) (hid : ¬ Kn (n0 + i) ∧ (fr a = .pl (.slice none 0 0) → K (n0 + i))) (hK0 : ∀ g, K0 g → K g) (hL0 : ∀ j g, j < xs.length → L0 j g → L j g) (hKn : ∀ j g, xs.length ≤ j → j < xs.length + ns.length → Kn g → L j g) (hfr : st.get (n0 + i) = none) (hb : (xs.length + ns.length) * b ≤ 140737488355328) (hm : xs.length + ns.length ≤ 140737488355328)
    (hk : ∀ y s', OwX k s' K L e y (xs ++ ns) → s'.n = st.n → Keeps K0 st s' → (WF st → n0 + i < st.n → WF s') → ARL P sd ops n0 (i + 1) l (aput fr (some t) y) s' Q) : ARL P sd ops n0 i (o :: l) fr st Q := by
  have fin : ∀ {i0 g : Nat} {c0 : List AV}, ((xs = [] ∧ fr a = .pl (.slice none 0 0)) ∨ (fr a = .sl i0 0 xs.length k.s ∧ st.get i0 = some ⟨c0, e, true, g⟩ ∧ c0.length = xs.length * k.s)) → (fr a = .sl i0 0 xs.length k.s → K0 g ∧ ∀ j x, xs[j]? = some x → k.R st (fun h => L0 j h ∧ h ≠ g) ((c0.drop (j * k.s)).take k.s) x) → ARL P sd ops n0 i (o :: l) fr st Q := by
    intro i0 g c0 h1 h2
    obtain ⟨y, s', cs, h3, h4, h5, h6, h7, h8⟩ := appE ht (n0 + i) h1 hx (fun c y => k.one c y) hb hm
    refine arl_cons hd hw ?_ h4 (by rw [ho]; rfl) (hk y s' ?_ h5 ?_ (fun hw hid => aappend_wf h3 hw hid))
    · have e : aop P (acall P 0) (n0 + i) o fr st = aappend P st (n0 + i) tt (fr a) (fr c) := by
        simp only [aop, ho, abuiltin, List.map_cons, List.map_nil, aeval]
        simp
      rw [e, h3]
    · rcases h8 with ⟨e1, e2, ⟨e3, e4, e5⟩ | ⟨e4, e5⟩⟩ | ⟨e2, e4, e5⟩
      · subst e1; subst e3
        exact .inl ⟨rfl, by rw [e4, e2]⟩
      · subst e1; subst e4; subst e5
        refine .inr ⟨n0 + i, n0 + i, cs, rfl, get_put _ _, hid.2 e2, h6, fun j x hx => ?_⟩
        exact k.mono (K := Kn) (fun g hg => ⟨hKn _ g (by simp) (by have := (List.getElem?_eq_some_iff.1 hx).1; simpa using this) hg, fun e => hid.1 (by rw [← e]; exact hg)⟩) _ _ (k.keep (Keeps.putF (G := fun _ => False) (Keeps.refl _ _) hfr) (fun _ _ h => h) _ _ (h7 j x (by simpa using hx)))
      · obtain ⟨k1, k2⟩ := h2 e2
        subst e4; subst e5
        have hcl : c0.length = xs.length * k.s := by
          rcases h1 with ⟨e1, e6⟩ | ⟨_, _, e6⟩
          · rw [e6] at e2; cases e2
          · exact e6
        have hkp : Keeps (fun h => h = g) st ((st.touch g (xs.length * k.s) (ns.length * k.s)).put (n0 + i) ⟨c0 ++ cs, e, true, g⟩) := ⟨Nat.le_refl _, fun j oj hj hg => by
          have hne : j ≠ n0 + i := fun e => by rw [e, hfr] at hj; cases hj
          simp [St.put, hne, St.touch, hj, hg], fun _ _ h _ _ => h⟩
        refine .inr ⟨n0 + i, g, c0 ++ cs, by rw [List.length_append], get_put _ _, hK0 g k1, by rw [List.length_append, List.length_append, hcl, h6, Nat.add_mul], fun j x hx => ?_⟩
        by_cases hj : j < xs.length
        · rw [List.getElem?_append_left hj] at hx
          rw [cells_left hcl hj]
          exact k.mono (fun g' hg => ⟨hL0 j g' hj hg.1, hg.2⟩) _ _ (k.keep hkp (fun g' hg => hg.2) _ _ (k2 j x hx))
        · rw [List.getElem?_append_right (by omega)] at hx
          rw [cells_right hcl (by omega)]
          exact k.mono (K := Kn) (fun g' hg => ⟨hKn _ g' (by omega) (by have := (List.getElem?_eq_some_iff.1 hx).1; omega) hg, fun e => hdis g k1 (by rw [← e]; exact hg)⟩) _ _ (k.keep hkp (fun g' hg e => hdis g k1 (by rw [← e]; exact hg)) _ _ (h7 _ x hx))
    · rcases h8 with ⟨e1, e2, ⟨e3, e4, e5⟩ | ⟨e4, e5⟩⟩ | ⟨e2, e4, e5⟩
      · subst e5; exact Keeps.refl _ _
      · subst e5; exact Keeps.putF (Keeps.refl _ _) hfr
      · subst e5
        have k1 := (h2 e2).1
        exact ⟨Nat.le_refl _, fun j oj hj hg => by
          have hne : j ≠ n0 + i := fun e => by rw [e, hfr] at hj; cases hj
          have hng : oj.grp ≠ g := fun e => hg (by rw [e]; exact k1)
          simp [St.put, hne, St.touch, hj, hng], fun _ _ h _ _ => h⟩
  rcases hv with ⟨h1, h2⟩ | ⟨i0, g, cs0, h1, h2, h3, h4, h5⟩
  · exact fin (i0 := 0) (g := 0) (c0 := []) (.inl ⟨h1, h2⟩) (fun e => by rw [h2] at e; cases e)
  · exact fin (.inr ⟨h1, h2, h4⟩) (fun _ => ⟨h3, h5⟩)
theorem aload_up {P : Program} {st s : St} (h : Ext st s) {t : TypeId} {p x : AV} (hl : aload P st t p = some x) : aload P s t p = some x := by
  unfold aload at hl ⊢
  split at hl
  · rename_i i off
    cases hg : st.get i with
    | none => rw [hg] at hl; cases hl
    | some o => rw [hg] at hl; rw [h.get i o hg (fun h => h)]; exact hl
  · rename_i i off
    split at hl
    case isFalse => cases hl
    rename_i hi
    rw [if_pos hi]
    cases hg : st.get i with
    | none => rw [hg] at hl; cases hl
    | some o => rw [hg] at hl; rw [h.get i o hg (fun h => h)]; exact hl
  · cases hl
/-- An empty literal. -/
theorem lit_none {P : Program} {t e : TypeId} {s b : Nat} (ht : TF P t e s b) (id : Nat) : abuildSlice P t id 0 [] = some (.sl id 0 0 s, ⟨[], e, true, id⟩) := by
  obtain ⟨i, z, h1, h2, h3, h4, h5⟩ := ht.inf
  have hp := ht.pos
  simp only [abuildSlice, ht.sl, ht.sz, h1, Option.bind_some, h4]
  rw [if_pos ⟨hp, by simp, by simp [maxLen], h5⟩]
  simp [afill]
end Go.Proofs.YtjpgpkkbmoehdaaDoor.Ra
