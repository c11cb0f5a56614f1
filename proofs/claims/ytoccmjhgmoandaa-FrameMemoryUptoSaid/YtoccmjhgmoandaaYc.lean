/- Rows of rows of one's own, one behind the other; frame.Cut; leatref07.SpoilLists. -/
import Derived.Test.YtoccmjhgmoandaaYa
namespace Go.Proofs.Ytoccmjhgmoandaa.Ra
open Go Go.RowKit
set_option linter.unusedVariables false
set_option linter.unusedSimpArgs false
set_option maxRecDepth 10000
section
variable {α : Type}
/-- Each element with its place. -/
theorem OwX.rdz {k : EK α} {st : St} {K : Nat → Prop} {L : Nat → Nat → Prop} {e : TypeId} {v : AV} {xs : List α} (h : OwX k st K L e v xs) : RdL st K k.s (fun c (p : α × Nat) => k.R st (L p.2) c p.1) v xs.zipIdx := by
  rcases h with ⟨h1, h2⟩ | ⟨i, g, cs, h1, h2, h3, h4, h5⟩
  · subst h1
    exact .inl ⟨rfl, .inl ⟨_, _, h2⟩⟩
  · refine .inr ⟨i, 0, true, _, by rw [List.length_zipIdx]; exact h1, h2, h3, by simp [h4], fun j p hp => ?_⟩
    rw [List.getElem?_zipIdx] at hp
    obtain ⟨x, hx, rfl⟩ := Option.map_eq_some_iff.1 hp
    simpa using k.mono (fun g' hg => hg.1) _ _ (h5 j x hx)
/-- 'append(v, x...)': both one's own; each element's groups stay told apart. -/
theorem arl_appZ {P : Program} {sd : Bool} {ops : Array Oper} {n0 i : Nat} {o : Oper} {l : List Oper} {fr : AFr} {st : St} {Q : AFr → St → Prop} {t a c : Nat} {tt e e' : TypeId} {b : Nat} {k : EK α} {K0 Kx K : Nat → Prop} {L0 Lx : Nat → Nat → Prop} {xs ns : List α} (ht : TF P tt e k.s b) (hd : o.dst = some t) (hw : awanted ops fr o = true) (ho : o.op = .call ⟨.builtin .append, #[.tmp a, .tmp c], #[tt, tt]⟩)
    (hv : OwX k st K0 L0 e (fr a) xs) (hx : OwX k st Kx Lx e' (fr c) ns) (hdis : ∀ j g, K0 g → ¬ Lx j g) (hid : (∀ j, ¬ Lx j (n0 + i)) ∧ (fr a = .pl (.slice none 0 0) → K (n0 + i))) (hK0 : ∀ g, K0 g → K g) (hfr : st.get (n0 + i) = none) (hb : (xs.length + ns.length) * b ≤ 140737488355328) (hm : xs.length + ns.length ≤ 140737488355328)
    (hk : ∀ y s', OwX k s' K (fun j g => (j < xs.length ∧ L0 j g) ∨ (xs.length ≤ j ∧ Lx (j - xs.length) g)) e y (xs ++ ns) → s'.n = st.n → Keeps K0 st s' → (WF st → n0 + i < st.n → WF s') → (fr a ≠ .pl (.slice none 0 0) → y ≠ .pl (.slice none 0 0)) → ARL P sd ops n0 (i + 1) l (aput fr (some t) y) s' Q) : ARL P sd ops n0 i (o :: l) fr st Q := by
  have hl1 : xs.zipIdx.length = xs.length := List.length_zipIdx
  have hl2 : ns.zipIdx.length = ns.length := List.length_zipIdx
  have fin : ∀ {i0 g : Nat} {c0 : List AV}, ((xs = [] ∧ fr a = .pl (.slice none 0 0)) ∨ (fr a = .sl i0 0 xs.length k.s ∧ st.get i0 = some ⟨c0, e, true, g⟩ ∧ c0.length = xs.length * k.s)) → (fr a = .sl i0 0 xs.length k.s → K0 g ∧ ∀ j x, xs[j]? = some x → k.R st (fun h => L0 j h ∧ h ≠ g) ((c0.drop (j * k.s)).take k.s) x) → ARL P sd ops n0 i (o :: l) fr st Q := by
    intro i0 g c0 h1 h2
    obtain ⟨y, s', cs, h3, h4, h5, h6, h7, h8⟩ := appE (xs := xs.zipIdx) (ns := ns.zipIdx) (i0 := i0) (g := g) (c0 := c0) ht (n0 + i) (by
      rcases h1 with ⟨e1, e2⟩ | e1
      · subst e1; exact .inl ⟨rfl, e2⟩
      · rw [hl1]; exact .inr e1) hx.rdz (fun c y => k.one c y.1) (by rw [hl1, hl2]; exact hb) (by rw [hl1, hl2]; exact hm)
    rw [hl2] at h6
    rw [hl1, hl2] at h8
    have h7' : ∀ j x, ns[j]? = some x → k.R st (Lx j) ((cs.drop (j * k.s)).take k.s) x := fun j x hx => h7 j (x, j) (by rw [List.getElem?_zipIdx, hx]; simp)
    refine arl_cons hd hw ?_ h4 (by rw [ho]; rfl) (hk y s' ?_ h5 ?_ (fun hw hid => aappend_wf h3 hw hid) ?_)
    · have e : aop P (acall P 0) (n0 + i) o fr st = aappend P st (n0 + i) tt (fr a) (fr c) := by
        simp only [aop, ho, abuiltin, List.map_cons, List.map_nil, aeval]
        simp
      rw [e, h3]
    · rcases h8 with ⟨e1, e2, ⟨e3, e4, e5⟩ | ⟨e4, e5⟩⟩ | ⟨e2, e4, e5⟩
      · have e1' : xs = [] := List.eq_nil_of_length_eq_zero (by rw [← hl1, e1]; rfl)
        have e3' : ns = [] := List.eq_nil_of_length_eq_zero (by rw [← hl2, e3]; rfl)
        subst e1'; subst e3'
        exact .inl ⟨rfl, by rw [e4, e2]⟩
      · have e1' : xs = [] := List.eq_nil_of_length_eq_zero (by rw [← hl1, e1]; rfl)
        subst e1'; subst e4; subst e5
        refine .inr ⟨n0 + i, n0 + i, cs, rfl, get_put _ _, hid.2 e2, h6, fun j x hx => ?_⟩
        exact k.mono (K := Lx j) (fun g hg => ⟨.inr ⟨by simp, by simpa using hg⟩, fun e => hid.1 j (by rw [← e]; exact hg)⟩) _ _ (k.keep (Keeps.putF (G := fun _ => False) (Keeps.refl _ _) hfr) (fun _ _ h => h) _ _ (h7' j x (by simpa using hx)))
      · obtain ⟨k1, k2⟩ := h2 e2
        subst e4; subst e5
        have hcl : c0.length = xs.length * k.s := by
          rcases h1 with ⟨e1, e6⟩ | ⟨_, _, e6⟩
          · rw [e6] at e2; cases e2
          · exact e6
        have hkp : Keeps (fun h => h = g) st ((st.touch g (xs.length * k.s) (ns.length * k.s)).put (n0 + i) ⟨c0 ++ cs, e, true, g⟩) := ⟨Nat.le_refl _, fun j oj hj hg => by
          have hne : j ≠ n0 + i := fun e => by rw [e, hfr] at hj; cases hj
          simp [St.put, hne, St.touch, hj, hg]⟩
        refine .inr ⟨n0 + i, g, c0 ++ cs, by rw [List.length_append], get_put _ _, hK0 g k1, by rw [List.length_append, List.length_append, hcl, h6, Nat.add_mul], fun j x hx => ?_⟩
        by_cases hj : j < xs.length
        · rw [List.getElem?_append_left hj] at hx
          rw [cells_left hcl hj]
          exact k.mono (fun g' hg => ⟨.inl ⟨hj, hg.1⟩, hg.2⟩) _ _ (k.keep hkp (fun g' hg => hg.2) _ _ (k2 j x hx))
        · rw [List.getElem?_append_right (by omega)] at hx
          rw [cells_right hcl (by omega)]
          exact k.mono (K := Lx (j - xs.length)) (fun g' hg => ⟨.inr ⟨by omega, hg⟩, fun e => hdis _ g k1 (by rw [← e]; exact hg)⟩) _ _ (k.keep hkp (fun g' hg e => hdis _ g k1 (by rw [← e]; exact hg)) _ _ (h7' _ x hx))
    · rcases h8 with ⟨e1, e2, ⟨e3, e4, e5⟩ | ⟨e4, e5⟩⟩ | ⟨e2, e4, e5⟩
      · subst e5; exact Keeps.refl _ _
      · subst e5; exact Keeps.putF (Keeps.refl _ _) hfr
      · subst e5
        have k1 := (h2 e2).1
        exact ⟨Nat.le_refl _, fun j oj hj hg => by
          have hne : j ≠ n0 + i := fun e => by rw [e, hfr] at hj; cases hj
          have hng : oj.grp ≠ g := fun e => hg (by rw [e]; exact k1)
          simp [St.put, hne, St.touch, hj, hng]⟩
    · intro hne
      rcases h8 with ⟨e1, e2, e3⟩ | ⟨e2, e4, e5⟩
      · exact absurd e2 hne
      · rw [e4]; intro h; cases h
  rcases hv with ⟨h1, h2⟩ | ⟨i0, g, cs0, h1, h2, h3, h4, h5⟩
  · exact fin (i0 := 0) (g := 0) (c0 := []) (.inl ⟨h1, h2⟩) (fun e => by rw [h2] at e; cases e)
  · exact fin (.inr ⟨h1, h2, h4⟩) (fun _ => ⟨h3, h5⟩)
end
/-- A list that grows by what a parser answers: whose memory is whose. -/
structure Sep (n lo : Nat) (KH KB KO : Nat → Prop) (LO : Nat → Nat → Prop) : Prop where
  o : ∀ g, KO g → lo ≤ g ∧ g < n ∧ ¬ KH g ∧ ¬ KB g
  l : ∀ j g, LO j g → lo ≤ g ∧ g < n ∧ ¬ KH g ∧ ¬ KB g
  d : ∀ i j g, LO i g → LO j g → i = j
  x : ∀ j g, KO g → ¬ LO j g
theorem Sep.more {n m lo : Nat} {KH KB KO : Nat → Prop} {LO : Nat → Nat → Prop} (h : Sep n lo KH KB KO LO) (hm : n ≤ m) : Sep m lo KH KB KO LO :=
  ⟨fun g hg => by have := h.o g hg; exact ⟨this.1, by omega, this.2.2⟩, fun j g hg => by have := h.l j g hg; exact ⟨this.1, by omega, this.2.2⟩, h.d, h.x⟩
theorem Sep.step {n n' n'' lo c : Nat} {KH KB KO KX KH' KB' : Nat → Prop} {LO L : Nat → Nat → Prop} (h : Sep n lo KH KB KO LO) (hG : Grp n' n'' KH KB KX KH' KB' L) (hB : ∀ g, KB g → lo ≤ g ∧ g < n) (h1 : n ≤ n') (h2 : n' ≤ n'') (hlo : lo ≤ n) :
    Sep n'' lo KH' KB' KO (fun j g => (j < c ∧ LO j g) ∨ (c ≤ j ∧ L (j - c) g)) ∧ (∀ j g, KO g → ¬ L j g) := by
  have old : ∀ g, g < n → ¬ KH g → ¬ KB g → ¬ KH' g ∧ ¬ KB' g := fun g hn h3 h4 => ⟨fun k => by rcases hG.h g k with k | k; exact h3 k; omega, fun k => by rcases hG.b g k with k | k; exact h4 k; omega⟩
  have hx : ∀ j g, KO g → ¬ L j g := fun j g hg k => by
    have := h.o g hg
    rcases hG.l j g k with k | k
    · exact this.2.2.2 k
    · omega
  have ln : ∀ j g, L j g → lo ≤ g ∧ g < n'' := fun j g k => by
    rcases hG.l j g k with k | k
    · have := hB g k; omega
    · omega
  have mix : ∀ i j g, LO i g → ¬ L j g := fun i j g hg k => by
    have := h.l i g hg
    rcases hG.l j g k with k | k
    · exact this.2.2.2 k
    · omega
  refine ⟨⟨fun g hg => ?_, fun j g hg => ?_, fun i j g hi hj => ?_, fun j g hg hl => ?_⟩, hx⟩
  · have := h.o g hg
    exact ⟨this.1, by omega, old g this.2.1 this.2.2.1 this.2.2.2⟩
  · rcases hg with ⟨_, hg⟩ | ⟨_, hg⟩
    · have := h.l j g hg
      exact ⟨this.1, by omega, old g this.2.1 this.2.2.1 this.2.2.2⟩
    · exact ⟨(ln _ _ hg).1, (ln _ _ hg).2, hG.lh _ _ hg⟩
  · rcases hi with ⟨_, hi⟩ | ⟨a1, hi⟩ <;> rcases hj with ⟨_, hj⟩ | ⟨a2, hj⟩
    · exact h.d i j g hi hj
    · exact absurd hj (mix _ _ _ hi)
    · exact absurd hi (mix _ _ _ hj)
    · have := hG.d _ _ g hi hj; omega
  · rcases hl with ⟨_, hl⟩ | ⟨_, hl⟩
    · exact h.x j g hg hl
    · exact hx _ g hg hl
theorem Fed.lift {s : St} {lo lo' p : Nat} {M : Int} {b : List Int} (h : Fed s lo p (fun _ => False) (fun _ => False) M b) (h1 : lo ≤ lo') (h2 : lo' ≤ s.n) : Fed s lo' p (fun _ => False) (fun _ => False) M b := by
  obtain ⟨a1, a2, a3, a4, a5, a6⟩ := h
  exact ⟨by omega, h2, fun _ h => h.elim, fun _ h => h.elim, a5, a6⟩
theorem OwX.splitF {α : Type} {k : EK α} {st : St} {K : Nat → Prop} {L : Nat → Nat → Prop} {e : TypeId} {v : AV} {xs : List α} (h : OwX k st K L e v xs) : ∃ g0, OwX k st (fun g => K g ∧ g = g0) (fun j g => L j g ∧ g ≠ g0) e v xs := by
  rcases h with h | ⟨i, g, cs, h1, h2, h3, h4, h5⟩
  · exact ⟨0, .inl h⟩
  · exact ⟨g, .inr ⟨i, g, cs, h1, h2, ⟨h3, rfl⟩, h4, fun j x hx => k.mono (fun h hh => ⟨⟨hh.1, hh.2⟩, hh.2⟩) _ _ (h5 j x hx)⟩⟩
theorem cutS_nil (M : Int) : cutS M [] = ([], [], 0) := by simp [cutS, cut]
set_option maxHeartbeats 4000000 in
theorem fcut_ok {st : St} (hw : WF st) {K : Nat → Prop} {v : AV} {b : List Int} (most : Int) (h : RdB st K v b) (hl : b.length ≤ 10000000) (hby : ∀ x ∈ b, 0 ≤ x ∧ x < 256) :
    ACalls Try.prog 26 [i64 most, v] st (fun r s => Ext st s ∧ ∃ x, ∃ KX : Nat → Prop, ∃ L : Nat → Nat → Prop, r = .tup [x, stOf b (cutS (bndF most) b)] ∧ x.solid = true ∧ OwX oRowK s KX L BT x (cutS (bndF most) b).1 ∧ (∀ g, KX g → st.n ≤ g ∧ g < s.n) ∧ (∀ j g, L j g → st.n ≤ g ∧ g < s.n) ∧ (∀ i j g, L i g → L j g → i = j) ∧ ∀ j g, KX g → ¬ L j g) := by
  replace h := h.lt hw
  have hvs := h.solid
  have hM := bndF_in most
  refine acalls_of Try.func26 rfl (by kernel_rfl) (by simp [hvs]; rfl) ?_
  repeat (first | (refine aw_seq ?_) | (refine aw_reg0 (by simp only [SZ, Nat.reduceAdd]; exact rfl) ?_) | (refine aw_reg (by decide +kernel) (by simp only [SZ, Nat.reduceAdd]; exact rfl) ?_) | (refine aw_regS (by decide +kernel) (by simp only [SZ, Nat.reduceAdd]; exact rfl) ?_) | (refine arl_nil ?_) | (refine aw_skip ?_) | (refine aw_block ?_) | (refine aw_exit ?_) | (refine aw_ret ?_))
  refine arl_cons rfl rfl (by simp +decide only [aop, abuiltin, aeval, aintBin, bin_int, aload_bump, SS, reduceIte, reduceCtorEq]; exact rfl) rfl rfl ?_
  refine arl_alloc rfl rfl rfl szST zST (fresh hw (by first | omega | (simp only [n_bump, n_put]; omega) | (simp only [n_bump, n_put] at *; omega))) ?_
  intro s0 hn0 hwf0 hE0 hg0 hD0
  have hw0 : WF s0 := hwf0 (by repeat (first | assumption | (refine WF.bump ?_ _))) (by simp only [n_bump, n_put, n_touch, n_kill] at *; omega)
  replace hE0 : Ext st s0 := Keeps.trans (show Ext st _ from (by repeat (first | exact Keeps.refl _ _ | (refine Keeps.bumpR ?_ _)))) hE0
  obtain ⟨c0, hc0⟩ : ∃ c0, st.n + (0 + 1) = c0 := ⟨_, rfl⟩
  rw [hc0] at hg0 ⊢
  have hc0n : c0 < s0.n := (hw0 _ _ hg0).1
  repeat (first | (refine aw_seq ?_) | (refine aw_reg0 (by simp only [SZ, Nat.reduceAdd]; exact rfl) ?_) | (refine aw_reg (by decide +kernel) (by simp only [SZ, Nat.reduceAdd]; exact rfl) ?_) | (refine aw_regS (by decide +kernel) (by simp only [SZ, Nat.reduceAdd]; exact rfl) ?_) | (refine arl_nil ?_) | (refine aw_skip ?_) | (refine aw_block ?_) | (refine aw_exit ?_) | (refine aw_ret ?_) | (refine arl_cons rfl rfl (by simp +decide only [aop, abuiltin, aeval, aintBin, bin_int, aload_bump, SS, reduceIte, reduceCtorEq]; exact rfl) (by first | rfl | with_reducible assumption) rfl ?_) | (refine arl_none rfl rfl (by simp +decide only [aop, abuiltin, aeval, aintBin, bin_int, aload_bump, SS, reduceIte, reduceCtorEq]; exact rfl) rfl rfl ?_) | (refine arl_off rfl rfl ?_) | (refine aw_condT (by simp +decide only [aop, abuiltin, aeval, aintBin, bin_int, aload_bump, SS, reduceIte, reduceCtorEq]; first | done | exact rfl) ?_) | (refine aw_condF (by simp +decide only [aop, abuiltin, aeval, aintBin, bin_int, aload_bump, SS, reduceIte, reduceCtorEq]; first | done | exact rfl) ?_))
  refine arl_call rfl rfl rfl rfl rfl rfl ((fnewP (by repeat (first | assumption | (refine WF.bump ?_ _))) most).wf (by repeat (first | assumption | (refine WF.bump ?_ _) | (refine WF.put ?_ (by simp only [n_bump, n_put, n_touch, n_kill] at *; omega) (by simp only [n_bump, n_put, n_touch, n_kill] at *; omega)))) |>.mono ?_)
  rintro r s1 ⟨hw1, hn1, hE1, p, rfl, hpn, hF1⟩
  refine ⟨by first | rfl | with_reducible assumption, ?_⟩
  replace hE1 : Ext s0 s1 := Keeps.trans (by repeat (first | assumption | exact Keeps.refl _ _ | (refine Keeps.bumpR ?_ _) | (refine Keeps.put ?_ (by assumption) (by simp only [n_bump, n_put, n_touch, n_kill] at *; omega)))) hE1
  have hN1 := hE1.n
  have hp1 : p + 1 ≤ s1.n := hF1.2.1
  simp only [n_bump] at hpn
  have hN0 := hE0.n
  have hN1 := hE1.n
  have hF1' := hF1.lift (lo' := s1.n) hp1 (Nat.le_refl _)
  repeat (first | (refine aw_seq ?_) | (refine aw_reg0 (by simp only [SZ, Nat.reduceAdd]; exact rfl) ?_) | (refine aw_reg (by decide +kernel) (by simp only [SZ, Nat.reduceAdd]; exact rfl) ?_) | (refine aw_regS (by decide +kernel) (by simp only [SZ, Nat.reduceAdd]; exact rfl) ?_) | (refine arl_nil ?_) | (refine aw_skip ?_) | (refine aw_block ?_) | (refine aw_exit ?_) | (refine aw_ret ?_) | (refine arl_cons rfl rfl (by simp +decide only [aop, abuiltin, aeval, aintBin, bin_int, aload_bump, SS, reduceIte, reduceCtorEq]; exact rfl) (by first | rfl | with_reducible assumption) rfl ?_) | (refine arl_none rfl rfl (by simp +decide only [aop, abuiltin, aeval, aintBin, bin_int, aload_bump, SS, reduceIte, reduceCtorEq]; exact rfl) rfl rfl ?_) | (refine arl_off rfl rfl ?_) | (refine aw_condT (by simp +decide only [aop, abuiltin, aeval, aintBin, bin_int, aload_bump, SS, reduceIte, reduceCtorEq]; first | done | exact rfl) ?_) | (refine aw_condF (by simp +decide only [aop, abuiltin, aeval, aintBin, bin_int, aload_bump, SS, reduceIte, reduceCtorEq]; first | done | exact rfl) ?_))
  refine arl_call rfl rfl rfl rfl rfl rfl ((clone_ok (by repeat (first | assumption | (refine WF.bump ?_ _))) (((h.up hE0).up hE1).up (by repeat (first | exact Keeps.refl _ _ | (refine Keeps.bumpR ?_ _)))) (by omega)).wf (by repeat (first | assumption | (refine WF.bump ?_ _) | (refine WF.put ?_ (by simp only [n_bump, n_put, n_touch, n_kill] at *; omega) (by simp only [n_bump, n_put, n_touch, n_kill] at *; omega)))) |>.mono ?_)
  rintro cv s2 ⟨hw2, hn2, hE2, hcs, hC⟩
  refine ⟨by first | rfl | with_reducible assumption, ?_⟩
  replace hE2 : Ext s1 s2 := Keeps.trans (by repeat (first | assumption | exact Keeps.refl _ _ | (refine Keeps.bumpR ?_ _) | (refine Keeps.put ?_ (by assumption) (by simp only [n_bump, n_put, n_touch, n_kill] at *; omega)))) hE2
  have hN2 := hE2.n
  replace hC := hC.rd.lt hw2
  simp only [n_bump] at hC
  have hN2 := hE2.n
  repeat (first | (refine aw_seq ?_) | (refine aw_reg0 (by simp only [SZ, Nat.reduceAdd]; exact rfl) ?_) | (refine aw_reg (by decide +kernel) (by simp only [SZ, Nat.reduceAdd]; exact rfl) ?_) | (refine aw_regS (by decide +kernel) (by simp only [SZ, Nat.reduceAdd]; exact rfl) ?_) | (refine arl_nil ?_) | (refine aw_skip ?_) | (refine aw_block ?_) | (refine aw_exit ?_) | (refine aw_ret ?_) | (refine arl_cons rfl rfl (by simp +decide only [aop, abuiltin, aeval, aintBin, bin_int, aload_bump, SS, reduceIte, reduceCtorEq]; exact rfl) (by first | rfl | with_reducible assumption) rfl ?_) | (refine arl_none rfl rfl (by simp +decide only [aop, abuiltin, aeval, aintBin, bin_int, aload_bump, SS, reduceIte, reduceCtorEq]; exact rfl) rfl rfl ?_) | (refine arl_off rfl rfl ?_) | (refine aw_condT (by simp +decide only [aop, abuiltin, aeval, aintBin, bin_int, aload_bump, SS, reduceIte, reduceCtorEq]; first | done | exact rfl) ?_) | (refine aw_condF (by simp +decide only [aop, abuiltin, aeval, aintBin, bin_int, aload_bump, SS, reduceIte, reduceCtorEq]; first | done | exact rfl) ?_))
  refine arl_call rfl rfl rfl rfl rfl rfl ((fed_ok (by repeat (first | assumption | (refine WF.bump ?_ _))) ((hF1'.up hE2).up (by repeat (first | exact Keeps.refl _ _ | (refine Keeps.bumpR ?_ _)))) hM.2 (hC.up (by repeat (first | exact Keeps.refl _ _ | (refine Keeps.bumpR ?_ _)))) (fun g hg => ⟨fun h => h, fun h => h, by have := hg.1; omega⟩) (fun x hx => hby x (by simpa using hx)) (by simp only [List.length_nil]; omega)).wf (by repeat (first | assumption | (refine WF.bump ?_ _) | (refine WF.put ?_ (by simp only [n_bump, n_put, n_touch, n_kill] at *; omega) (by simp only [n_bump, n_put, n_touch, n_kill] at *; omega)))) |>.mono ?_)
  rintro res s3 ⟨hw3, hn3, hE3, x, KX, KH, KB, L, fs, rfl, hxs, hO, hG, hfs, -, hF3⟩
  refine ⟨rfl, ?_⟩
  rw [List.nil_append] at hfs hF3 ⊢
  rw [cutS_nil] at hfs
  simp only [List.nil_append] at hfs
  replace hE3 : Keeps (fun g => g = p ∨ False ∨ False) s2 s3 := Keeps.trans (Keeps.mono (G := fun _ => False) (show Ext s2 _ from (by repeat (first | exact Keeps.refl _ _ | (refine Keeps.bumpR ?_ _)))) (fun _ h => h.elim)) hE3
  have hS3 : Ext s0 s3 := Keeps.call (hE1.trans hE2) hE3 hw0 (fun g hg => .inr (by rcases hg with h | h | h; omega; exact h.elim; exact h.elim))
  have hN3 := hE3.n
  have hg3 := hS3.get _ _ hg0 (fun h => h)
  repeat (first | (refine aw_seq ?_) | (refine aw_reg0 (by simp only [SZ, Nat.reduceAdd]; exact rfl) ?_) | (refine aw_reg (by decide +kernel) (by simp only [SZ, Nat.reduceAdd]; exact rfl) ?_) | (refine aw_regS (by decide +kernel) (by simp only [SZ, Nat.reduceAdd]; exact rfl) ?_) | (refine arl_nil ?_) | (refine aw_skip ?_) | (refine aw_block ?_) | (refine aw_exit ?_) | (refine aw_ret ?_) | (refine arl_cons rfl rfl (by simp +decide only [aop, abuiltin, aeval, aintBin, bin_int, aload_bump, SS, reduceIte, reduceCtorEq]; exact rfl) (by first | rfl | with_reducible assumption) rfl ?_) | (refine arl_none rfl rfl (by simp +decide only [aop, abuiltin, aeval, aintBin, bin_int, aload_bump, SS, reduceIte, reduceCtorEq]; exact rfl) rfl rfl ?_) | (refine arl_off rfl rfl ?_) | (refine aw_condT (by simp +decide only [aop, abuiltin, aeval, aintBin, bin_int, aload_bump, SS, reduceIte, reduceCtorEq]; first | done | exact rfl) ?_) | (refine aw_condF (by simp +decide only [aop, abuiltin, aeval, aintBin, bin_int, aload_bump, SS, reduceIte, reduceCtorEq]; first | done | exact rfl) ?_))
  refine arl_call rfl rfl rfl rfl rfl rfl ((fstate_ok (by repeat (first | assumption | (refine WF.bump ?_ _))) (hF3.up (by repeat (first | exact Keeps.refl _ _ | (refine Keeps.bumpR ?_ _)))) (by omega)).wf (by repeat (first | assumption | (refine WF.bump ?_ _) | (refine WF.put ?_ (by simp only [n_bump, n_put, n_touch, n_kill] at *; omega) (by simp only [n_bump, n_put, n_touch, n_kill] at *; omega)))) |>.mono ?_)
  rintro r s4 ⟨hw4, hn4, hE4, rfl⟩
  refine ⟨by first | rfl | with_reducible assumption, ?_⟩
  replace hE4 : Ext s3 s4 := Keeps.trans (by repeat (first | assumption | exact Keeps.refl _ _ | (refine Keeps.bumpR ?_ _) | (refine Keeps.put ?_ (by assumption) (by simp only [n_bump, n_put, n_touch, n_kill] at *; omega)))) hE4
  have hN4 := hE4.n
  have hg4 := hE4.get _ _ hg3 (fun h => h)
  obtain ⟨qa, qb, qc, qd, hst⟩ : ∃ qa qb qc qd : Int, stOf b (cutS (bndF most) b) = stT qa qb qc qd := ⟨_, _, _, _, rfl⟩
  rw [hst]
  repeat (first | (refine aw_seq ?_) | (refine aw_reg0 (by simp only [SZ, Nat.reduceAdd]; exact rfl) ?_) | (refine aw_reg (by decide +kernel) (by simp only [SZ, Nat.reduceAdd]; exact rfl) ?_) | (refine aw_regS (by decide +kernel) (by simp only [SZ, Nat.reduceAdd]; exact rfl) ?_) | (refine arl_nil ?_) | (refine aw_skip ?_) | (refine aw_block ?_) | (refine aw_exit ?_) | (refine aw_ret ?_) | (refine arl_cons rfl rfl (by simp +decide only [aop, abuiltin, aeval, aintBin, bin_int, aload_bump, SS, reduceIte, reduceCtorEq]; exact rfl) (by first | rfl | with_reducible assumption) rfl ?_) | (refine arl_none rfl rfl (by simp +decide only [aop, abuiltin, aeval, aintBin, bin_int, aload_bump, SS, reduceIte, reduceCtorEq]; exact rfl) rfl rfl ?_) | (refine arl_off rfl rfl ?_) | (refine aw_condT (by simp +decide only [aop, abuiltin, aeval, aintBin, bin_int, aload_bump, SS, reduceIte, reduceCtorEq]; first | done | exact rfl) ?_) | (refine aw_condF (by simp +decide only [aop, abuiltin, aeval, aintBin, bin_int, aload_bump, SS, reduceIte, reduceCtorEq]; first | done | exact rfl) ?_))
  refine arl_storeW (e := ST) (cs := [i64 qa, i64 qb, i64 qc, i64 qd]) rfl rfl rfl rfl rfl hg4 szST rfl rfl rfl rfl rfl ?_
  intro s5 hn5 hwf5 hK5 hg5 hD5
  have hlR : aload Try.prog s5 ST (.ptr c0 0) = some (stT qa qb qc qd) := load_agg Try.underlying34 rfl szST hg5 (by simp)
  repeat (first | (refine aw_seq ?_) | (refine aw_reg0 (by simp only [SZ, Nat.reduceAdd]; exact rfl) ?_) | (refine aw_reg (by decide +kernel) (by simp only [SZ, Nat.reduceAdd]; exact rfl) ?_) | (refine aw_regS (by decide +kernel) (by simp only [SZ, Nat.reduceAdd]; exact rfl) ?_) | (refine arl_nil ?_) | (refine aw_skip ?_) | (refine aw_block ?_) | (refine aw_exit ?_) | (refine aw_ret ?_) | (refine arl_cons rfl rfl (by simp +decide only [aop, abuiltin, aeval, aintBin, bin_int, aload_bump, SS, reduceIte, reduceCtorEq]; exact rfl) (by first | rfl | with_reducible assumption) rfl ?_) | (refine arl_none rfl rfl (by simp +decide only [aop, abuiltin, aeval, aintBin, bin_int, aload_bump, SS, reduceIte, reduceCtorEq]; exact rfl) rfl rfl ?_) | (refine arl_off rfl rfl ?_) | (refine aw_condT (by simp +decide only [aop, abuiltin, aeval, aintBin, bin_int, aload_bump, SS, reduceIte, reduceCtorEq]; first | done | exact rfl) ?_) | (refine aw_condF (by simp +decide only [aop, abuiltin, aeval, aintBin, bin_int, aload_bump, SS, reduceIte, reduceCtorEq]; first | done | exact rfl) ?_))
  have hX := ((hO.up hE4).lt hw4).keep hK5 (fun g hg h => by have := hG.x g hg.1; omega) (fun j g hg h => by rcases hG.l j g hg.1 with k | k; exact k; omega)
  obtain ⟨g9, hX⟩ := hX.splitF
  have hN4 := hE4.n
  refine ⟨.inr rfl, _, ares2 rfl hlR, (Keeps.call ((hE0.trans hS3).trans (hE4.trans (by repeat (first | exact Keeps.refl _ _ | (refine Keeps.bumpR ?_ _))))) hK5 hw (fun g hg => .inr (by omega))).trans (by repeat (first | exact Keeps.refl _ _ | (refine Keeps.bumpR ?_ _))), x, fun g => (KX g ∧ g < s4.n) ∧ g = g9, fun j g => (L j g ∧ g < s4.n) ∧ g ≠ g9, rfl, hxs, ?_, ?_, ?_, ?_, ?_⟩
  · rw [hfs]
    exact hX.up (by repeat (first | exact Keeps.refl _ _ | (refine Keeps.bumpR ?_ _)))
  · intro g hg
    have := hG.x g hg.1.1
    simp only [n_bump] at *
    omega
  · intro j g hg
    have h2 := hg.1.2
    rcases hG.l j g hg.1.1 with k | k
    · exact k.elim
    · simp only [n_bump] at *
      omega
  · intro i j g hi hj
    exact hG.d i j g hi.1.1 hj.1.1
  · intro j g hg hl
    exact hl.2 hg.2
end Go.Proofs.Ytoccmjhgmoandaa.Ra
