/- Rows of bytes, by names. -/
import Derived.Test.YtjpgpkkbmoehdaaDoorRn
import Derived.Test.YtjpgpkkbmoehdaaDoorRows
import Derived.KernelRfl
namespace Go.Proofs.YtjpgpkkbmoehdaaDoor.Ra
open Go Go.RowKit
set_option linter.unusedVariables false
set_option linter.unusedSimpArgs false
set_option maxRecDepth 10000
theorem t5 : (Tryd.prog.info? 5).map (fun i => (i.zero, i.size, i.bytes)) = some (some (.int .u8 0), 1, 1) := by kernel_rfl
theorem sz5 : szOf Tryd.prog 5 = some 1 := by
  obtain ⟨i, hi, hz⟩ := Option.map_eq_some_iff.1 t5
  simp only [Prod.mk.injEq] at hz
  simp [szOf, hi, hz.2.1]
theorem u5 : Tryd.prog.underlying 5 = some (.int .u8) := Tryd.underlying5
theorem uB : Tryd.prog.underlying 28 = some (.slice 5) := Tryd.underlying28
/-- A byte. -/
abbrev u8 (x : Int) : AV := .pl (.int .u8 x)
abbrev i64 (x : Int) : AV := .pl (.int .i64 x)
/-- A slice without places. -/
def Emp (s : Nat) (v : AV) : Prop := (∃ q c, v = .pl (.slice q 0 c)) ∨ ∃ i off, ∃ b : Bool, v = .sl i off 0 (bif b then s else 0)
/-- A slice that reads as these bytes; its group is as told. -/
def RdB (st : St) (K : Nat → Prop) (v : AV) (xs : List Int) : Prop :=
  (xs = [] ∧ Emp 1 v) ∨ ∃ i off, ∃ b : Bool, ∃ o, v = .sl i off xs.length (bif b then 1 else 0) ∧ st.get i = some o ∧ K o.grp ∧ off + xs.length ≤ o.cells.length ∧ ∀ j x, xs[j]? = some x → o.cells[off + j]? = some (u8 x)
/-- A row of one's own: nil, or all that is told of an object. -/
def OwB (st : St) (K : Nat → Prop) (v : AV) (xs : List Int) : Prop :=
  (xs = [] ∧ v = .pl (.slice none 0 0)) ∨ ∃ i g, v = .sl i 0 xs.length 1 ∧ st.get i = some ⟨xs.map u8, 5, true, g⟩ ∧ K g
theorem OwB.rd {st : St} {K : Nat → Prop} {v : AV} {xs : List Int} (h : OwB st K v xs) : RdB st K v xs := by
  rcases h with ⟨h1, h2⟩ | ⟨i, g, h1, h2, h3⟩
  · exact .inl ⟨h1, .inl ⟨_, _, h2⟩⟩
  · exact .inr ⟨i, 0, true, _, h1, h2, h3, by simp, fun j x hx => by simp [hx]⟩
theorem RdB.keep {st st' : St} {K G : Nat → Prop} {v : AV} {xs : List Int} (h : RdB st K v xs) (hk : Keeps G st st') (hd : ∀ g, K g → ¬ G g) : RdB st' K v xs := by
  rcases h with h | ⟨i, off, es, o, h1, h2, h3, h4, h5⟩
  · exact .inl h
  · exact .inr ⟨i, off, es, o, h1, hk.get i o h2 (hd _ h3), h3, h4, h5⟩
theorem OwB.keep {st st' : St} {K G : Nat → Prop} {v : AV} {xs : List Int} (h : OwB st K v xs) (hk : Keeps G st st') (hd : ∀ g, K g → ¬ G g) : OwB st' K v xs := by
  rcases h with h | ⟨i, g, h1, h2, h3⟩
  · exact .inl h
  · exact .inr ⟨i, g, h1, hk.get i _ h2 (hd _ h3), h3⟩
theorem RdB.mono {st : St} {K K' : Nat → Prop} {v : AV} {xs : List Int} (h : RdB st K v xs) (hk : ∀ g, K g → K' g) : RdB st K' v xs := by
  rcases h with h | ⟨i, off, es, o, h1, h2, h3, h4⟩
  · exact .inl h
  · exact .inr ⟨i, off, es, o, h1, h2, hk _ h3, h4⟩
theorem OwB.mono {st : St} {K K' : Nat → Prop} {v : AV} {xs : List Int} (h : OwB st K v xs) (hk : ∀ g, K g → K' g) : OwB st K' v xs := by
  rcases h with h | ⟨i, g, h1, h2, h3⟩
  · exact .inl h
  · exact .inr ⟨i, g, h1, h2, hk _ h3⟩
theorem RdB.solid {st : St} {K : Nat → Prop} {v : AV} {xs : List Int} (h : RdB st K v xs) : v.solid = true := by
  rcases h with ⟨_, ⟨q, c, rfl⟩ | ⟨i, off, es, rfl⟩⟩ | ⟨i, off, es, o, rfl, _⟩ <;> rfl
theorem OwB.solid {st : St} {K : Nat → Prop} {v : AV} {xs : List Int} (h : OwB st K v xs) : v.solid = true := h.rd.solid
theorem RdB.len {st : St} {K : Nat → Prop} {v : AV} {xs : List Int} (h : RdB st K v xs) : alen Tryd.prog #[28] [v] = some (i64 xs.length) := by
  have hb : ((#[28] : Array TypeId)[0]?).bind Tryd.prog.underlying = some (.slice 5) := uB
  rcases h with ⟨rfl, ⟨q, c, rfl⟩ | ⟨i, off, es, rfl⟩⟩ | ⟨i, off, es, o, rfl, _⟩
  · exact len_pl hb q 0 c
  · exact len_sl hb i off 0 _
  · exact len_sl hb i off _ _
/-- A place of it: its address, and what stands there. -/
theorem RdB.at {st : St} {K : Nat → Prop} {v : AV} {xs : List Int} (h : RdB st K v xs) (k : IntKind) (x : Int) (h0 : 0 ≤ x) (h1 : x < xs.length) :
    ∃ p, aindexAddr Tryd.prog 28 v (.pl (.int k x)) = some p ∧ p.solid = true ∧ aload Tryd.prog st 5 p = some (u8 (xs.getD x.toNat 0)) := by
  rcases h with ⟨rfl, _⟩ | ⟨i, off, es, o, rfl, h2, h3, h4, h5⟩
  · simp at h1; omega
  · refine ⟨_, idx_sl uB sz5 i off _ _ k x h0 h1, rfl, load_at u5 rfl sz5 h2 ?_⟩
    have hj : x.toNat < xs.length := by omega
    rw [Nat.mul_one]
    exact h5 x.toNat _ (by simp [List.getD, hj])
theorem RdB.atN {st : St} {K : Nat → Prop} {v : AV} {xs : List Int} (h : RdB st K v xs) (k : IntKind) (j : Nat) (hj : j < xs.length) :
    ∃ p, aindexAddr Tryd.prog 28 v (.pl (.int k j)) = some p ∧ p.solid = true ∧ aload Tryd.prog st 5 p = some (u8 xs[j]) := by
  obtain ⟨p, h1, h2, h3⟩ := h.at k j (by omega) (by omega)
  refine ⟨p, h1, h2, ?_⟩
  rw [h3]
  simp [List.getD, hj]
/-- A literal of bytes. -/
theorem fill_bytes (z : AV) : ∀ (ns : List Int) (pre : List AV), afill (fun i => some (i * 1, 1)) (pre ++ List.replicate ns.length z) ((ns.zipIdx pre.length).map fun p => (p.2, u8 p.1)) = some (pre ++ ns.map u8)
  | [], pre => by simp [afill]
  | n :: ns, pre => by
    have ih := fill_bytes z ns (pre ++ [u8 n])
    simp only [List.zipIdx_cons, List.map_cons, afill, Nat.mul_one]
    have hc : (AV.cells (u8 n)) = [u8 n] := rfl
    rw [hc]
    rw [if_pos ⟨rfl, rfl, by simp⟩]
    have hs : splice (pre ++ List.replicate (n :: ns).length z) pre.length [u8 n] = (pre ++ [u8 n]) ++ List.replicate ns.length z := by
      simp only [splice, List.length_cons, List.replicate_succ, List.length_nil]
      rw [List.take_left]
      simp [List.drop_append]
    rw [hs]
    simpa using ih
theorem lits (id : Nat) (ns : List Int) (hn : ns.length ≤ 16777216) : abuildSlice Tryd.prog 28 id ns.length (ns.zipIdx.map fun p => (p.2, u8 p.1)) = some (.sl id 0 ns.length 1, ⟨ns.map u8, 5, true, id⟩) := by
  obtain ⟨i, hi, hz⟩ := Option.map_eq_some_iff.1 t5
  simp only [Prod.mk.injEq] at hz
  simp only [abuildSlice, uB, sz5, hi, Option.bind_some, hz.1]
  rw [if_pos ⟨by decide, by simp; omega, by simp only [maxLen]; omega, rfl⟩]
  have hr : ((Array.range (ns.length * 1)).map (fun x => (Value.int .u8 0).cells[x % (Value.int .u8 0).cells.size]!)).toList.map AV.pl = List.replicate ns.length (u8 0) := by
    apply List.ext_getElem
    · simp
    · intro j h1 h2
      simp [Value.cells, Nat.mod_one]
  rw [hr]
  have := fill_bytes (u8 0) ns []
  simp only [List.nil_append, List.length_nil] at this
  rw [this]
  rfl
theorem lit0 (id : Nat) : abuildSlice Tryd.prog 28 id 0 [] = some (.sl id 0 0 1, ⟨[], 5, true, id⟩) := lits id [] (by decide)
theorem lit1 (id : Nat) (x : Int) : abuildSlice Tryd.prog 28 id 1 [(0, u8 x)] = some (.sl id 0 1 1, ⟨[u8 x], 5, true, id⟩) := lits id [x] (by simp)
theorem RdB.lit (st : St) (id g : Nat) (ns : List Int) : RdB (st.put id ⟨ns.map u8, 5, true, g⟩) (fun _ => True) (.sl id 0 ns.length 1) ns :=
  .inr ⟨id, 0, true, _, rfl, get_put _ _, trivial, by simp, fun j x hx => by simp [hx]⟩
theorem ones (ns : List Int) : (ns.map u8).all AV.one = true := by
  rw [List.all_eq_true]
  intro x hx
  obtain ⟨n, _, rfl⟩ := List.mem_map.1 hx
  rfl
/-- What is read is put behind what is one's own. -/
theorem app_any {st : St} {K K' : Nat → Prop} {v x : AV} {xs ns : List Int} (id : Nat) (hv : OwB st K v xs) (hx : RdB st K' x ns) (hb : xs.length + ns.length ≤ 140737488355328) :
    ∃ y s, aappend Tryd.prog st id 28 v x = some (y, s) ∧ y.solid = true ∧ s.n = st.n ∧
      ((v = .pl (.slice none 0 0) ∧ xs = [] ∧ ((ns = [] ∧ y = v ∧ s = st) ∨ (y = .sl id 0 ns.length 1 ∧ s = st.put id ⟨ns.map u8, 5, true, id⟩))) ∨
       (∃ i g, v = .sl i 0 xs.length 1 ∧ st.get i = some ⟨xs.map u8, 5, true, g⟩ ∧ K g ∧ y = .sl id 0 (xs.length + ns.length) 1 ∧ s = (st.touch g xs.length ns.length).put id ⟨(xs ++ ns).map u8, 5, true, g⟩)) := by
  obtain ⟨i5, hi, hz⟩ := Option.map_eq_some_iff.1 t5
  simp only [Prod.mk.injEq] at hz
  obtain ⟨z1, z2, z3⟩ := hz
  have hsrc : asrc Tryd.prog st i5.size x = some (ns.map u8, ns.length) := by
    rw [z2]
    rcases hx with ⟨rfl, ⟨q, c, rfl⟩ | ⟨i, off, es, rfl⟩⟩ | ⟨i, off, es, o, rfl, h2, h3, h4, h5⟩
    · rfl
    · rfl
    · simp only [asrc]
      by_cases h0 : ns.length = 0
      · have : ns = [] := List.eq_nil_of_length_eq_zero h0
        subst this
        rfl
      · rw [if_neg h0, h2]
        simp only [Nat.mul_one]
        rw [if_pos h4]
        congr 2
        apply List.ext_getElem?
        intro j
        by_cases hj : j < ns.length
        · rw [List.getElem?_take, if_pos hj, List.getElem?_drop, h5 j ns[j] (List.getElem?_eq_getElem hj), List.getElem?_map, List.getElem?_eq_getElem hj]
          rfl
        · rw [List.getElem?_eq_none (by simp; omega), List.getElem?_eq_none (by simp; omega)]
  have hone := ones ns
  rcases hv with ⟨h1, h2⟩ | ⟨i, g, h1, h2, h3⟩
  · subst h1
    subst h2
    by_cases h0 : ns.length = 0
    · have : ns = [] := List.eq_nil_of_length_eq_zero h0
      subst this
      exact ⟨.pl (.slice none 0 0), st, by simp only [aappend, uB, hi, hsrc]; rfl, rfl, rfl, .inl ⟨rfl, rfl, .inl ⟨rfl, rfl, rfl⟩⟩⟩
    · refine ⟨.sl id 0 ns.length 1, st.put id ⟨ns.map u8, 5, true, id⟩, ?_, rfl, rfl, .inl ⟨rfl, rfl, .inr ⟨rfl, rfl⟩⟩⟩
      simp only [aappend, uB, hi, hsrc]
      have hm : ns.length ≤ maxLen := by simp only [maxLen]; simp only [List.length_nil] at hb; omega
      rw [if_neg h0, if_pos ⟨by omega, by rw [z1, z2]; rfl, by rw [z3]; simp only [List.length_nil] at hb; omega, hm, hone⟩, z2]
  · subst h1
    refine ⟨.sl id 0 (xs.length + ns.length) 1, (st.touch g xs.length ns.length).put id ⟨(xs ++ ns).map u8, 5, true, g⟩, ?_, rfl, rfl, .inr ⟨i, g, rfl, h2, h3, rfl, rfl⟩⟩
    simp only [aappend, uB, hi, hsrc, h2]
    have hm : xs.length + ns.length ≤ maxLen := by simp only [maxLen]; omega
    rw [if_pos ⟨by first | trivial | rfl, by first | trivial | rfl, by omega, by rw [z1, z2]; rfl, by rw [z2]; simp, by rw [z3]; omega, hm, hone⟩, z2]
    simp only [Nat.mul_one, List.map_append, if_true]
/-- The objects of at most L cells stay. -/
structure Short (L : Nat) (st st' : St) : Prop where
  n : st.n ≤ st'.n
  get : ∀ i o, st.get i = some o → o.cells.length ≤ L → st'.get i = some o
theorem Short.refl (L : Nat) (st : St) : Short L st st := ⟨Nat.le_refl _, fun _ _ h _ => h⟩
theorem Short.bump {L : Nat} {st s : St} (h : Short L st s) (k : Nat) : Short L st (s.bump k) := ⟨by have := h.n; simp only [St.bump]; omega, h.get⟩
theorem Short.put {L : Nat} {st s : St} (h : Short L st s) (hw : WF st) {i : Nat} {o : AObj} (hi : st.n ≤ i) : Short L st (s.put i o) := ⟨h.n, fun j o' ho hl => by
  have := (hw j o' ho).1
  have hne : j ≠ i := by omega
  simp only [St.put, hne, if_false]
  exact h.get j o' ho hl⟩
theorem Short.touch {L : Nat} {st s : St} (h : Short L st s) {off : Nat} (ho : L ≤ off) (g n : Nat) : Short L st (s.touch g off n) := ⟨h.n, fun j o' ho' hl => by
  have h1 := h.get j o' ho' hl
  simp only [St.touch, h1, Option.map_some, Option.some.injEq]
  split
  · rw [topR_short _ _ _ (Nat.le_trans hl ho)]
  · rfl⟩
theorem OwB.short {L : Nat} {st s : St} {K : Nat → Prop} {v : AV} {xs : List Int} (h : OwB st K v xs) (hs : Short L st s) (hl : xs.length ≤ L) : OwB s K v xs := by
  rcases h with h | ⟨i, g, h1, h2, h3⟩
  · exact .inl h
  · exact .inr ⟨i, g, h1, hs.get i _ h2 (by simpa using hl), h3⟩
/-- .. as a row of one's own. -/
theorem app_own {st : St} {K K' : Nat → Prop} {v x : AV} {xs ns : List Int} {id : Nat} (hid : K id) (hv : OwB st K v xs) (hx : RdB st K' x ns) (hb : xs.length + ns.length ≤ 140737488355328) :
    ∃ y s, aappend Tryd.prog st id 28 v x = some (y, s) ∧ y.solid = true ∧ s.n = st.n ∧ OwB s K y (xs ++ ns) ∧ (∀ (L : Nat) (st0 : St), WF st0 → Short L st0 st → st0.n ≤ id → L ≤ xs.length → Short L st0 s) ∧ ∀ (G : Nat → Prop) (st0 : St), WF st0 → Keeps G st0 st → st0.n ≤ id → (∀ g, K g → G g ∨ st0.n ≤ g) → Keeps G st0 s := by
  obtain ⟨y, s, h1, h2, hn, h3⟩ := app_any id hv hx hb
  refine ⟨y, s, h1, h2, hn, ?_, ?_, ?_⟩
  · rcases h3 with ⟨rfl, rfl, ⟨rfl, rfl, rfl⟩ | ⟨rfl, rfl⟩⟩ | ⟨i, g, rfl, h4, h5, rfl, rfl⟩
    · exact .inl ⟨rfl, rfl⟩
    · exact .inr ⟨id, id, rfl, get_put _ _, hid⟩
    · exact .inr ⟨id, g, by rw [List.length_append], get_put _ _, h5⟩
  · intro L st0 hw hk hi hl
    rcases h3 with ⟨rfl, rfl, ⟨rfl, rfl, rfl⟩ | ⟨rfl, rfl⟩⟩ | ⟨i, g, rfl, h4, h5, rfl, rfl⟩
    · exact hk
    · exact hk.put hw hi
    · exact (hk.touch hl _ _).put hw hi
  · intro G st0 hw hk hi hg
    rcases h3 with ⟨rfl, rfl, ⟨rfl, rfl, rfl⟩ | ⟨rfl, rfl⟩⟩ | ⟨i, g, rfl, h4, h5, rfl, rfl⟩
    · exact hk
    · exact hk.put hw hi
    · exact (hk.touch hw (hg g h5) _ _).put hw hi
theorem conv_int {P : Program} {src dst : TypeId} {d : TypeDesc} {k' : IntKind} (h : P.underlying src = some d) (h' : P.underlying dst = some (.int k')) (st : St) (id : Nat) (k : IntKind) (n : Int) : aconvert P st id src dst (.pl (.int k n)) = some (.pl (.int k' (k'.wrap n)), st) := by simp only [aconvert, h, h']
theorem aload_bump {P : Program} {st : St} (k : Nat) (t : TypeId) (x : AV) : aload P (st.bump k) t x = aload P st t x := rfl
theorem n_bump (st : St) (k : Nat) : (st.bump k).n = st.n + k := rfl
theorem n_put (st : St) (i : Nat) (o : AObj) : (st.put i o).n = st.n := rfl
theorem n_touch (st : St) (g a b : Nat) : (st.touch g a b).n = st.n := rfl
theorem n_kill (st : St) (g : Nat) : (st.kill g).n = st.n := rfl
theorem Keeps.bumpR {G : Nat → Prop} {st s : St} (h : Keeps G st s) (k : Nat) : Keeps G st (s.bump k) := ⟨by have := h.n; simp only [St.bump]; omega, h.get, h.ch⟩
/-- 'append(v, x...)', v one's own. -/
theorem arl_app {sd : Bool} {ops : Array Oper} {n0 i : Nat} {o : Oper} {l : List Oper} {fr : AFr} {st : St} {Q : AFr → St → Prop} {t a b : Nat} {K K' : Nat → Prop} {xs ns : List Int} (hd : o.dst = some t) (hw : awanted ops fr o = true) (ho : o.op = .call ⟨.builtin .append, #[.tmp a, .tmp b], #[28, 28]⟩)
    (hv : OwB st K (fr a) xs) (hx : RdB st K' (fr b) ns) (hid : K (n0 + i)) (hb : xs.length + ns.length ≤ 140737488355328)
    (hk : ∀ y s, OwB s K y (xs ++ ns) → s.n = st.n → (∀ (G : Nat → Prop) (st0 : St), WF st0 → Keeps G st0 st → st0.n ≤ n0 + i → (∀ g, K g → G g ∨ st0.n ≤ g) → Keeps G st0 s) → ARL Tryd.prog sd ops n0 (i + 1) l (aput fr (some t) y) s Q) : ARL Tryd.prog sd ops n0 i (o :: l) fr st Q := by
  obtain ⟨y, s, h1, h2, h3, h4, h6, h5⟩ := app_own hid hv hx hb
  refine arl_cons hd hw ?_ h2 (by rw [ho]; rfl) (hk y s h4 h3 h5)
  have e : aop Tryd.prog (acall Tryd.prog 0) (n0 + i) o fr st = aappend Tryd.prog st (n0 + i) 28 (fr a) (fr b) := by
    simp only [aop, ho, abuiltin, List.map_cons, List.map_nil, aeval]
    rfl
  rw [e, h1]
/-- .. what is short stays, too. -/
theorem arl_appS {sd : Bool} {ops : Array Oper} {n0 i : Nat} {o : Oper} {l : List Oper} {fr : AFr} {st : St} {Q : AFr → St → Prop} {t a b : Nat} {K K' : Nat → Prop} {xs ns : List Int} (hd : o.dst = some t) (hw : awanted ops fr o = true) (ho : o.op = .call ⟨.builtin .append, #[.tmp a, .tmp b], #[28, 28]⟩)
    (hv : OwB st K (fr a) xs) (hx : RdB st K' (fr b) ns) (hid : K (n0 + i)) (hb : xs.length + ns.length ≤ 140737488355328)
    (hk : ∀ y s, OwB s K y (xs ++ ns) → s.n = st.n → (∀ (G : Nat → Prop) (st0 : St), WF st0 → Keeps G st0 st → st0.n ≤ n0 + i → (∀ g, K g → G g ∨ st0.n ≤ g) → Keeps G st0 s) → (∀ (L : Nat) (st0 : St), WF st0 → Short L st0 st → st0.n ≤ n0 + i → L ≤ xs.length → Short L st0 s) → ARL Tryd.prog sd ops n0 (i + 1) l (aput fr (some t) y) s Q) : ARL Tryd.prog sd ops n0 i (o :: l) fr st Q := by
  obtain ⟨y, s, h1, h2, h3, h4, h6, h5⟩ := app_own hid hv hx hb
  refine arl_cons hd hw ?_ h2 (by rw [ho]; rfl) (hk y s h4 h3 h5 h6)
  have e : aop Tryd.prog (acall Tryd.prog 0) (n0 + i) o fr st = aappend Tryd.prog st (n0 + i) 28 (fr a) (fr b) := by
    simp only [aop, ho, abuiltin, List.map_cons, List.map_nil, aeval]
    rfl
  rw [e, h1]
/-- A byte is written over. -/
theorem store_at {st : St} {i g k : Nat} {xs : List Int} (h : st.get i = some ⟨xs.map u8, 5, true, g⟩) (hk : k < xs.length) (y : Int) : astore Tryd.prog st 5 (u8 y) (.ptr i k) = some ((st.touch g k 1).put i ⟨(xs.set k y).map u8, 5, true, g⟩) := by
  simp only [astore, h, sz5]
  rw [if_pos ⟨trivial, rfl, by simp; omega, rfl, rfl⟩]
  congr 3
  have hc : (AV.cells (u8 y)) = [u8 y] := rfl
  rw [hc]
  simp only [splice, List.length_cons, List.length_nil]
  apply List.ext_getElem?
  intro j
  rw [List.map_set, List.getElem?_set]
  by_cases h1 : j < k
  · rw [List.append_assoc, List.getElem?_append_left (by simp; omega), List.getElem?_take, if_pos h1, if_neg (by omega)]
  · by_cases h2 : j = k
    · subst h2
      rw [List.append_assoc, List.getElem?_append_right (by simp; omega)]
      simp [hk, Nat.min_eq_left (Nat.le_of_lt hk)]
    · rw [List.append_assoc, List.getElem?_append_right (by simp; omega), List.getElem?_append_right (by simp; omega), List.getElem?_drop, if_neg (by omega)]
      congr 1
      simp
      omega
theorem arl_store {sd : Bool} {ops : Array Oper} {n0 j : Nat} {o : Oper} {l : List Oper} {fr : AFr} {st : St} {Q : AFr → St → Prop} {p w : Operand} {i g k : Nat} {xs : List Int} {y : Int} (hd : o.dst = none) (hw : awanted ops fr o = true) (ho : o.op = .store 5 p w) (hp : aeval fr p = .ptr i k) (hy : aeval fr w = u8 y)
    (h : st.get i = some ⟨xs.map u8, 5, true, g⟩) (hk : k < xs.length) (hq : ARL Tryd.prog sd ops n0 (j + 1) l fr ((st.touch g k 1).put i ⟨(xs.set k y).map u8, 5, true, g⟩) Q) : ARL Tryd.prog sd ops n0 j (o :: l) fr st Q :=
  arl_none hd hw (y := .pl undef) (by simp only [aop, ho, hp, hy, store_at h hk y]; rfl) rfl (by rw [ho]; rfl) hq
theorem SZ : (∀ (α : Type) (l : List α), l.toArray.size = l.length) ∧ (∀ (α : Type) (a : α) (l : List α), (a :: l).length = l.length + 1) ∧ (∀ (α : Type), ([] : List α).length = 0) := ⟨fun _ _ => rfl, fun _ _ _ => rfl, fun _ => rfl⟩
/-- What steps are told by, in one. -/
theorem SS : (∀ (fr : AFr) (d : Nat) (v : AV) (t : Nat), aput fr (some d) v t = if t = d then v else fr t) ∧ (∀ (α β : Type) (f : α → β) (l : List α), Array.map f l.toArray = (l.map f).toArray) ∧ (∀ (α β : Type) (f : α → β) (a : α) (l : List α), List.map f (a :: l) = f a :: List.map f l) ∧ (∀ (α β : Type) (f : α → β), List.map f [] = []) ∧
    (∀ (α : Type) (l : List α), l ++ [] = l) ∧ (∀ (α : Type) (l : List α), [] ++ l = l) ∧ (∀ (α : Type) (a : α) (l r : List α), (a :: l) ++ r = a :: (l ++ r)) ∧ (∀ (α β : Type) (f : α → β) (a : α), (some a).map f = some (f a)) ∧ (∀ (α β : Type) (f : α → β), (none : Option α).map f = none) ∧
    (∀ (α : Type) (a d : α) (l : List α), (a :: l).getD 0 d = a) ∧ (∀ (α : Type) (a d : α) (l : List α) (n : Nat), (a :: l).getD (n + 1) d = l.getD n d) ∧ (∀ (α : Type) (d : α) (n : Nat), ([] : List α).getD n d = d) ∧
    (∀ (α : Type) (a b : α), (if True then a else b) = a) ∧ (∀ (α : Type) (a b : α), (if False then a else b) = b) ∧ (∀ (α : Type) (a : α) (l : List α), (a :: l)[0]? = some a) ∧ (∀ (α : Type) (a : α) (l : List α) (n : Nat), (a :: l)[n + 1]? = l[n]?) :=
  ⟨fun _ _ _ _ => rfl, fun _ _ f l => by simp, fun _ _ _ _ _ => rfl, fun _ _ _ => rfl, fun _ l => List.append_nil l, fun _ _ => rfl, fun _ _ _ _ => rfl, fun _ _ _ _ => rfl, fun _ _ _ => rfl, fun _ _ _ _ => rfl, fun _ _ _ _ _ => rfl, fun _ _ _ => rfl, fun _ _ _ => if_true _ _, fun _ _ _ => if_false _ _, fun _ _ _ => rfl, fun _ _ _ _ => rfl⟩
end Go.Proofs.YtjpgpkkbmoehdaaDoor.Ra
