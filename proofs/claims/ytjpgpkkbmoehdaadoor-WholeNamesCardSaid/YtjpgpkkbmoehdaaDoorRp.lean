/- Rows of anything, by names. -/
import Derived.Test.YtjpgpkkbmoehdaaDoorRo
import Derived.Test.YtjpgpkkbmoehdaaDoorRq
namespace Go.Proofs.YtjpgpkkbmoehdaaDoor.Ra
open Go Go.RowKit
set_option linter.unusedVariables false
set_option linter.unusedSimpArgs false
theorem aw_cut {P : Program} {a b : Code} {fr : AFr} {st : St} {Q M : AExit → AFr → St → Prop} (h : AW P a fr st M) (hM : ∀ e fr st, M e fr st → seqQ P b Q e fr st) : AW P (.seq a b) fr st Q := aw_seq (h.mono hM)
/-- t is a slice of e, whose cells are s many. -/
structure TF (P : Program) (t e : TypeId) (s b : Nat) : Prop where
  sl : P.underlying t = some (.slice e)
  inf : ∃ i z, P.info? e = some i ∧ i.size = s ∧ i.bytes = b ∧ i.zero = some z ∧ z.cells.size = s
  pos : 0 < s
theorem TF.sz {P : Program} {t e : TypeId} {s b : Nat} (h : TF P t e s b) : szOf P e = some s := by
  obtain ⟨i, z, h1, h2, _⟩ := h.inf
  simp [szOf, h1, h2]
theorem TF.of {P : Program} {t e : TypeId} {s b : Nat} (h1 : P.underlying t = some (.slice e)) (h2 : ((P.info? e).map fun i => (i.size, i.bytes, (i.zero.map (·.cells.size)))) = some (s, b, some s)) (h3 : 0 < s) : TF P t e s b := by
  refine ⟨h1, ?_, h3⟩
  obtain ⟨i, hi, hz⟩ := Option.map_eq_some_iff.1 h2
  simp only [Prod.mk.injEq] at hz
  obtain ⟨z, hz1, hz2⟩ := Option.map_eq_some_iff.1 hz.2.2
  exact ⟨i, z, hi, hz.1, hz.2.1, hz1, hz2⟩
variable {P : Program} {α : Type}
/-- A slice that reads as xs, s cells each. -/
def RdL (st : St) (K : Nat → Prop) (s : Nat) (R : List AV → α → Prop) (v : AV) (xs : List α) : Prop :=
  (xs = [] ∧ Emp s v) ∨ ∃ i off, ∃ b : Bool, ∃ o, v = .sl i off xs.length (bif b then s else 0) ∧ st.get i = some o ∧ K o.grp ∧ off + xs.length * s ≤ o.cells.length ∧ ∀ j x, xs[j]? = some x → R ((o.cells.drop (off + j * s)).take s) x
/-- A row of one's own: its cells. -/
def OwL (st : St) (K : Nat → Prop) (e : TypeId) (s : Nat) (R : List AV → α → Prop) (v : AV) (xs : List α) : Prop :=
  (xs = [] ∧ v = .pl (.slice none 0 0)) ∨ ∃ i g cs, v = .sl i 0 xs.length s ∧ st.get i = some ⟨cs, e, true, g⟩ ∧ K g ∧ cs.length = xs.length * s ∧ ∀ j x, xs[j]? = some x → R ((cs.drop (j * s)).take s) x
theorem OwL.rd {st : St} {K : Nat → Prop} {e : TypeId} {s : Nat} {R : List AV → α → Prop} {v : AV} {xs : List α} (h : OwL st K e s R v xs) : RdL st K s R v xs := by
  rcases h with ⟨h1, h2⟩ | ⟨i, g, cs, h1, h2, h3, h4, h5⟩
  · exact .inl ⟨h1, .inl ⟨_, _, h2⟩⟩
  · exact .inr ⟨i, 0, true, _, h1, h2, h3, by simp [h4], fun j x hx => by simpa using h5 j x hx⟩
theorem RdL.keep {st st' : St} {K G : Nat → Prop} {s : Nat} {R R' : List AV → α → Prop} {v : AV} {xs : List α} (h : RdL st K s R v xs) (hk : Keeps G st st') (hd : ∀ g, K g → ¬ G g) (hr : ∀ c x, R c x → R' c x) : RdL st' K s R' v xs := by
  rcases h with h | ⟨i, off, es, o, h1, h2, h3, h4, h5⟩
  · exact .inl h
  · exact .inr ⟨i, off, es, o, h1, hk.get i o h2 (hd _ h3), h3, h4, fun j x hx => hr _ _ (h5 j x hx)⟩
theorem OwL.keep {st st' : St} {K G : Nat → Prop} {e : TypeId} {s : Nat} {R R' : List AV → α → Prop} {v : AV} {xs : List α} (h : OwL st K e s R v xs) (hk : Keeps G st st') (hd : ∀ g, K g → ¬ G g) (hr : ∀ c x, R c x → R' c x) : OwL st' K e s R' v xs := by
  rcases h with h | ⟨i, g, cs, h1, h2, h3, h4, h5⟩
  · exact .inl h
  · exact .inr ⟨i, g, cs, h1, hk.get i _ h2 (hd _ h3), h3, h4, fun j x hx => hr _ _ (h5 j x hx)⟩
theorem RdL.mono {st : St} {K K' : Nat → Prop} {s : Nat} {R : List AV → α → Prop} {v : AV} {xs : List α} (h : RdL st K s R v xs) (hk : ∀ g, K g → K' g) : RdL st K' s R v xs := by
  rcases h with h | ⟨i, off, es, o, h1, h2, h3, h4⟩
  · exact .inl h
  · exact .inr ⟨i, off, es, o, h1, h2, hk _ h3, h4⟩
theorem OwL.mono {st : St} {K K' : Nat → Prop} {e : TypeId} {s : Nat} {R : List AV → α → Prop} {v : AV} {xs : List α} (h : OwL st K e s R v xs) (hk : ∀ g, K g → K' g) : OwL st K' e s R v xs := by
  rcases h with h | ⟨i, g, cs, h1, h2, h3, h4⟩
  · exact .inl h
  · exact .inr ⟨i, g, cs, h1, h2, hk _ h3, h4⟩
theorem OwL.lt {st : St} (hw : WF st) {K : Nat → Prop} {e : TypeId} {s : Nat} {R : List AV → α → Prop} {v : AV} {xs : List α} (h : OwL st K e s R v xs) : OwL st (fun g => K g ∧ g < st.n) e s R v xs := by
  rcases h with h | ⟨i, g, cs, h1, h2, h3, h4⟩
  · exact .inl h
  · exact .inr ⟨i, g, cs, h1, h2, ⟨h3, (hw i _ h2).2⟩, h4⟩
theorem RdL.lt {st : St} (hw : WF st) {K : Nat → Prop} {s : Nat} {R R' : List AV → α → Prop} (hr : ∀ c x, R c x → R' c x) {v : AV} {xs : List α} (h : RdL st K s R v xs) : RdL st (fun g => K g ∧ g < st.n) s R' v xs := by
  rcases h with h | ⟨i, off, es, o, h1, h2, h3, h4, h5⟩
  · exact .inl h
  · exact .inr ⟨i, off, es, o, h1, h2, ⟨h3, (hw i _ h2).2⟩, h4, fun j x hx => hr _ _ (h5 j x hx)⟩
theorem RdL.solid {st : St} {K : Nat → Prop} {s : Nat} {R : List AV → α → Prop} {v : AV} {xs : List α} (h : RdL st K s R v xs) : v.solid = true := by
  rcases h with ⟨_, ⟨q, c, rfl⟩ | ⟨i, off, es, rfl⟩⟩ | ⟨i, off, es, o, rfl, _⟩ <;> rfl
theorem OwL.solid {st : St} {K : Nat → Prop} {e : TypeId} {s : Nat} {R : List AV → α → Prop} {v : AV} {xs : List α} (h : OwL st K e s R v xs) : v.solid = true := h.rd.solid
theorem RdL.len {st : St} {K : Nat → Prop} {t e : TypeId} {s b : Nat} {R : List AV → α → Prop} {v : AV} {xs : List α} (h : RdL st K s R v xs) (ht : TF P t e s b) : alen P #[t] [v] = some (i64 xs.length) := by
  have hb : ((#[t] : Array TypeId)[0]?).bind P.underlying = some (.slice e) := ht.sl
  rcases h with ⟨rfl, ⟨q, c, rfl⟩ | ⟨i, off, es, rfl⟩⟩ | ⟨i, off, es, o, rfl, _⟩
  · exact len_pl hb q 0 c
  · exact len_sl hb i off 0 _
  · exact len_sl hb i off _ _
/-- A place of it: its address, and what stands there. -/
theorem RdL.at {st : St} {K : Nat → Prop} {t e : TypeId} {s b : Nat} {R : List AV → α → Prop} {v : AV} {xs : List α} (h : RdL st K s R v xs) (ht : TF P t e s b) (k : IntKind) (j : Nat) (hj : j < xs.length) :
    ∃ i off o, aindexAddr P t v (.pl (.int k j)) = some (.ptr i off) ∧ st.get i = some o ∧ K o.grp ∧ off + s ≤ o.cells.length ∧ R ((o.cells.drop off).take s) xs[j] := by
  rcases h with ⟨rfl, _⟩ | ⟨i, off, es, o, rfl, h2, h3, h4, h5⟩
  · simp at hj
  · refine ⟨i, off + j * s, o, by rw [idx_sl ht.sl ht.sz i off _ _ k j (by omega) (by omega)]; simp, h2, h3, ?_, h5 j _ (List.getElem?_eq_getElem hj)⟩
    have : j * s + s ≤ xs.length * s := by rw [← Nat.succ_mul]; exact Nat.mul_le_mul_right _ hj
    omega
theorem load_one {t : TypeId} {d : TypeDesc} {st : St} {i off : Nat} {o : AObj} {c : AV} (hd : P.underlying t = some d) (ha : aggD d = false) (hs : szOf P t = some 1) (ho : st.get i = some o) (hl : off + 1 ≤ o.cells.length) (hx : (o.cells.drop off).take 1 = [c]) : aload P st t (.ptr i off) = some c := by
  refine load_at hd ha hs ho ?_
  have := congrArg (fun q => q[0]?) hx
  simpa [List.getElem?_take] using this
theorem load_agg {t : TypeId} {d : TypeDesc} {st : St} {i off s : Nat} {o : AObj} (hd : P.underlying t = some d) (ha : aggD d = true) (hs : szOf P t = some s) (ho : st.get i = some o) (hl : off + s ≤ o.cells.length) : aload P st t (.ptr i off) = some (.agg ((o.cells.drop off).take s)) := by
  simp [aload, ho, hd, hs, ha, hl]
/-- A literal of one element. -/
theorem lit_one {t e : TypeId} {s b : Nat} (ht : TF P t e s b) (id : Nat) (x : AV) (hx : x.solid = true) (hc : x.cells.length = s) (hs : s ≤ 16777216) : abuildSlice P t id 1 [(0, x)] = some (.sl id 0 1 s, ⟨x.cells, e, true, id⟩) := by
  obtain ⟨i, z, h1, h2, h3, h4, h5⟩ := ht.inf
  have hp := ht.pos
  simp only [abuildSlice, ht.sl, ht.sz, h1, Option.bind_some, h4]
  rw [if_pos ⟨hp, by simp; omega, by simp [maxLen], h5⟩]
  have hl : (((Array.range (1 * s)).map (fun x => z.cells[x % z.cells.size]!)).toList.map AV.pl).length = s := by simp
  simp only [afill]
  rw [if_pos ⟨hx, hc, by rw [hl, hc]; omega⟩]
  simp only [afill, Option.map_some, splice, Nat.zero_mul, List.take_zero, List.nil_append, hc, Nat.zero_add]
  rw [List.drop_of_length_le (by rw [hl]; exact Nat.le_refl s), List.append_nil]
/-- What is read is put behind what is one's own. -/
theorem appL {st : St} {K K' : Nat → Prop} {t e : TypeId} {s b : Nat} {R : List AV → α → Prop} {v x : AV} {xs ns : List α} (ht : TF P t e s b) {id : Nat} (hid : v = .pl (.slice none 0 0) → K id) (hv : OwL st K e s R v xs) (hx : RdL st K' s R x ns) (hone : ∀ c y, R c y → c.all AV.one = true) (hb : (xs.length + ns.length) * b ≤ 140737488355328) (hm : xs.length + ns.length ≤ 140737488355328) :
    ∃ y s', aappend P st id t v x = some (y, s') ∧ y.solid = true ∧ s'.n = st.n ∧ OwL s' K e s R y (xs ++ ns) ∧ ∀ (G : Nat → Prop) (st0 : St), WF st0 → Keeps G st0 st → st0.n ≤ id → (∀ g, K g → G g ∨ st0.n ≤ g) → Keeps G st0 s' := by
  obtain ⟨i5, z, hi, hsz, hby, hz, hzs⟩ := ht.inf
  have hp := ht.pos
  have hpart : ∀ (cs : List AV), cs.length = ns.length * s → (∀ j y, ns[j]? = some y → R ((cs.drop (j * s)).take s) y) → cs.all AV.one = true := by
    intro cs hl hr
    rw [List.all_eq_true]
    intro c hc
    obtain ⟨q, hq, rfl⟩ := List.mem_iff_getElem.1 hc
    have hj : q / s < ns.length := by rw [Nat.div_lt_iff_lt_mul hp]; omega
    have h1 := hone _ _ (hr (q / s) _ (List.getElem?_eq_getElem hj))
    rw [List.all_eq_true] at h1
    refine h1 _ ?_
    rw [List.mem_iff_getElem?]
    refine ⟨q % s, ?_⟩
    have h2 := Nat.mod_lt q hp
    have h3 := Nat.div_add_mod q s
    rw [List.getElem?_take, if_pos h2, List.getElem?_drop, show q / s * s + q % s = q by rw [Nat.mul_comm]; exact h3, List.getElem?_eq_getElem hq]
  have hsrc : ∃ cs, asrc P st i5.size x = some (cs, ns.length) ∧ cs.length = ns.length * s ∧ ∀ j y, ns[j]? = some y → R ((cs.drop (j * s)).take s) y := by
    rw [hsz]
    rcases hx with ⟨rfl, ⟨q, c, rfl⟩ | ⟨i, off, es, rfl⟩⟩ | ⟨i, off, es, o, rfl, h2, h3, h4, h5⟩
    · exact ⟨[], rfl, by simp, by simp⟩
    · exact ⟨[], rfl, by simp, by simp⟩
    · by_cases h0 : ns.length = 0
      · refine ⟨[], by simp [asrc, h0], by simp [h0], ?_⟩
        have : ns = [] := List.eq_nil_of_length_eq_zero h0
        subst this
        simp
      · refine ⟨(o.cells.drop off).take (ns.length * s), by simp only [asrc]; rw [if_neg h0, h2]; simp only; rw [if_pos h4], by simp; omega, fun j y hy => ?_⟩
        have hj : j < ns.length := (List.getElem?_eq_some_iff.1 hy).1
        have := h5 j y hy
        have hjs : j * s + s ≤ ns.length * s := by rw [← Nat.succ_mul]; exact Nat.mul_le_mul_right _ hj
        have e : (((o.cells.drop off).take (ns.length * s)).drop (j * s)).take s = (o.cells.drop (off + j * s)).take s := by
          apply List.ext_getElem?
          intro q
          simp only [List.getElem?_take, List.getElem?_drop]
          by_cases hq : q < s
          · rw [if_pos hq, if_pos hq, if_pos (by omega), Nat.add_assoc]
          · rw [if_neg hq, if_neg hq]
        rw [e]
        exact this
  obtain ⟨cs, hsrc, hcl, hcr⟩ := hsrc
  have hall := hpart cs hcl hcr
  rcases hv with ⟨h1, h2⟩ | ⟨i, g, c0, h1, h2, h3, h4, h5⟩
  · subst h1
    subst h2
    by_cases h0 : ns.length = 0
    · have : ns = [] := List.eq_nil_of_length_eq_zero h0
      subst this
      exact ⟨.pl (.slice none 0 0), st, by simp only [aappend, ht.sl, hi, hsrc]; rfl, rfl, rfl, .inl ⟨rfl, rfl⟩, fun _ _ _ hk _ _ => hk⟩
    · refine ⟨.sl id 0 ns.length s, st.put id ⟨cs, e, true, id⟩, ?_, rfl, rfl, .inr ⟨id, id, cs, rfl, get_put _ _, hid rfl, hcl, hcr⟩, fun _ _ hw hk hi _ => hk.put hw hi⟩
      simp only [aappend, ht.sl, hi, hsrc]
      have hm' : ns.length ≤ maxLen := by simp only [maxLen]; simp only [List.length_nil] at hm; omega
      rw [if_neg h0, if_pos ⟨by omega, by rw [hz, hsz]; simp [hzs], by rw [hby]; simpa using hb, hm', hall⟩, hsz]
  · subst h1
    refine ⟨.sl id 0 (xs.length + ns.length) s, (st.touch g (xs.length * s) (ns.length * s)).put id ⟨c0 ++ cs, e, true, g⟩, ?_, rfl, rfl, .inr ⟨id, g, c0 ++ cs, by rw [List.length_append], get_put _ _, h3, by rw [List.length_append, List.length_append, h4, hcl, Nat.add_mul], fun j x hx => ?_⟩, fun G st0 hw hk hi hg => (hk.touch hw (hg g h3) _ _).put hw hi⟩
    · simp only [aappend, ht.sl, hi, hsrc, h2]
      have hm' : xs.length + ns.length ≤ maxLen := by simp only [maxLen]; omega
      rw [if_pos ⟨trivial, trivial, by omega, by rw [hz, hsz]; simp [hzs], by rw [hsz]; omega, by rw [hby]; exact hb, hm', hall⟩, hsz]
      simp
    · by_cases hj : j < xs.length
      · rw [List.getElem?_append_left hj] at hx
        have := h5 j x hx
        have hjs : j * s + s ≤ xs.length * s := by rw [← Nat.succ_mul]; exact Nat.mul_le_mul_right _ hj
        have e : ((c0 ++ cs).drop (j * s)).take s = (c0.drop (j * s)).take s := by
          apply List.ext_getElem?
          intro q
          simp only [List.getElem?_take, List.getElem?_drop]
          by_cases hq : q < s
          · rw [if_pos hq, if_pos hq, List.getElem?_append_left (by omega)]
          · rw [if_neg hq, if_neg hq]
        rw [e]
        exact this
      · rw [List.getElem?_append_right (by omega)] at hx
        have := hcr _ x hx
        have e : ((c0 ++ cs).drop (j * s)).take s = (cs.drop ((j - xs.length) * s)).take s := by
          apply List.ext_getElem?
          intro q
          simp only [List.getElem?_take, List.getElem?_drop]
          by_cases hq : q < s
          · have h6 : xs.length * s ≤ j * s := Nat.mul_le_mul_right _ (by omega)
            rw [if_pos hq, if_pos hq, List.getElem?_append_right (by omega)]
            congr 1
            rw [h4, Nat.sub_mul]
            omega
          · rw [if_neg hq, if_neg hq]
        rw [e]
        exact this
theorem arl_appL {sd : Bool} {ops : Array Oper} {n0 i : Nat} {o : Oper} {l : List Oper} {fr : AFr} {st : St} {Q : AFr → St → Prop} {t a c : Nat} {tt e : TypeId} {s b : Nat} {K K' : Nat → Prop} {R : List AV → α → Prop} {xs ns : List α} (ht : TF P tt e s b) (hd : o.dst = some t) (hw : awanted ops fr o = true) (ho : o.op = .call ⟨.builtin .append, #[.tmp a, .tmp c], #[tt, tt]⟩)
    (hv : OwL st K e s R (fr a) xs) (hx : RdL st K' s R (fr c) ns) (hone : ∀ c y, R c y → c.all AV.one = true) (hid : fr a = .pl (.slice none 0 0) → K (n0 + i)) (hb : (xs.length + ns.length) * b ≤ 140737488355328) (hm : xs.length + ns.length ≤ 140737488355328)
    (hk : ∀ y s', OwL s' K e s R y (xs ++ ns) → s'.n = st.n → (∀ (G : Nat → Prop) (st0 : St), WF st0 → Keeps G st0 st → st0.n ≤ n0 + i → (∀ g, K g → G g ∨ st0.n ≤ g) → Keeps G st0 s') → (WF st → n0 + i < st.n → WF s') → ARL P sd ops n0 (i + 1) l (aput fr (some t) y) s' Q) : ARL P sd ops n0 i (o :: l) fr st Q := by
  obtain ⟨y, s', h1, h2, h3, h4, h5⟩ := appL ht hid hv hx hone hb hm
  refine arl_cons hd hw ?_ h2 (by rw [ho]; rfl) (hk y s' h4 h3 h5 (fun hw hid => aappend_wf h1 hw hid))
  have e : aop P (acall P 0) (n0 + i) o fr st = aappend P st (n0 + i) tt (fr a) (fr c) := by
    simp only [aop, ho, abuiltin, List.map_cons, List.map_nil, aeval]
    simp
  rw [e, h1]
theorem RdL.lit1 {R : List AV → α → Prop} {x : AV} {y : α} (h : R [x] y) (st : St) (id : Nat) (e : TypeId) : RdL (st.put id ⟨[x], e, true, id⟩) (fun _ => True) 1 R (.sl id 0 1 1) [y] :=
  .inr ⟨id, 0, true, _, rfl, get_put _ _, trivial, by simp, fun j z hz => by
    cases j with
    | zero => simp at hz; subst hz; exact h
    | succ j => simp at hz⟩
theorem RdL.lit1K {K : Nat → Prop} {R : List AV → α → Prop} {x : AV} {y : α} (h : R [x] y) (st : St) {id : Nat} (hK : K id) (e : TypeId) : RdL (st.put id ⟨[x], e, true, id⟩) K 1 R (.sl id 0 1 1) [y] :=
  .inr ⟨id, 0, true, _, rfl, get_put _ _, hK, by simp, fun j z hz => by
    cases j with
    | zero => simp at hz; subst hz; exact h
    | succ j => simp at hz⟩
theorem OwL.grp {st : St} (hw : WF st) {K : Nat → Prop} {e : TypeId} {s : Nat} {R : List AV → α → Prop} {v : AV} {xs : List α} (h : OwL st K e s R v xs) (hn : v ≠ .pl (.slice none 0 0)) : ∃ g, K g ∧ g < st.n := by
  rcases h with ⟨_, h⟩ | ⟨i, g, cs, _, h2, h3, _⟩
  · exact absurd h hn
  · exact ⟨g, h3, (hw i _ h2).2⟩
theorem OwL.ne {st : St} {K : Nat → Prop} {e : TypeId} {s : Nat} {R : List AV → α → Prop} {v : AV} {xs : List α} {x : α} (h : OwL st K e s R v (xs ++ [x])) : v ≠ .pl (.slice none 0 0) := by
  rcases h with ⟨h, _⟩ | ⟨i, g, cs, rfl, _⟩
  · simp at h
  · intro h; cases h
/-- A literal of elements of one cell. -/
theorem fill_ones (z : AV) : ∀ (ns pre : List AV), (∀ x ∈ ns, x.solid = true ∧ x.cells = [x]) → afill (fun i => some (i * 1, 1)) (pre ++ List.replicate ns.length z) ((ns.zipIdx pre.length).map fun p => (p.2, p.1)) = some (pre ++ ns)
  | [], pre, _ => by simp [afill]
  | n :: ns, pre, h => by
    have ih := fill_ones z ns (pre ++ [n]) (fun x hx => h x (by simp [hx]))
    obtain ⟨h1, h2⟩ := h n (by simp)
    simp only [List.zipIdx_cons, List.map_cons, afill, Nat.mul_one, h2]
    rw [if_pos ⟨h1, rfl, by simp⟩]
    have hs : splice (pre ++ List.replicate (n :: ns).length z) pre.length [n] = (pre ++ [n]) ++ List.replicate ns.length z := by
      simp only [splice, List.length_cons, List.replicate_succ, List.length_nil]
      rw [List.take_left]
      simp [List.drop_append]
    rw [hs]
    simpa using ih
theorem lits_one {t e : TypeId} {b : Nat} (ht : TF P t e 1 b) (id : Nat) (ns : List AV) (h : ∀ x ∈ ns, x.solid = true ∧ x.cells = [x]) (hn : ns.length ≤ 16777216) : abuildSlice P t id ns.length (ns.zipIdx.map fun p => (p.2, p.1)) = some (.sl id 0 ns.length 1, ⟨ns, e, true, id⟩) := by
  obtain ⟨i, z, h1, h2, h3, h4, h5⟩ := ht.inf
  simp only [abuildSlice, ht.sl, ht.sz, h1, Option.bind_some, h4]
  rw [if_pos ⟨by decide, by simp; omega, by simp only [maxLen]; omega, h5⟩]
  obtain ⟨z0, hz0⟩ : ∃ z0, z.cells = #[z0] := by
    rcases hzc : z.cells with ⟨l⟩
    rw [hzc] at h5
    match l, h5 with
    | [a], _ => exact ⟨a, rfl⟩
  have hr : ((Array.range (ns.length * 1)).map (fun x => z.cells[x % z.cells.size]!)).toList.map AV.pl = List.replicate ns.length (.pl z0) := by
    apply List.ext_getElem
    · simp
    · intro j h1 h2
      simp [hz0, Nat.mod_one]
  rw [hr]
  have := fill_ones (.pl z0) ns [] h
  simp only [List.nil_append, List.length_nil] at this
  rw [this]
  rfl
end Go.Proofs.YtjpgpkkbmoehdaaDoor.Ra
