/- Steps that hide the store behind them. -/
import Derived.Test.YtjpgpkkbmoehdaaDoorRs
namespace Go.Proofs.YtjpgpkkbmoehdaaDoor.Ra
open Go Go.RowKit
set_option linter.unusedVariables false
set_option linter.unusedSimpArgs false
set_option maxRecDepth 10000
section
variable {P : Program} {sd : Bool} {ops : Array Oper} {n0 i : Nat} {o : Oper} {l : List Oper} {fr : AFr} {st : St} {Q : AFr → St → Prop} {t : Nat} {e : TypeId} {s : Nat} {cs : List AV}
/-- The store by a name of its own. -/
theorem arl_hide (hk : ∀ s', s' = st → ARL P sd ops n0 i l fr s' Q) : ARL P sd ops n0 i l fr st Q := hk _ rfl
theorem aw_hide {c : Code} {Q : AExit → AFr → St → Prop} (hk : ∀ s', s' = st → AW P c fr s' Q) : AW P c fr st Q := hk _ rfl
/-- A new variable that holds a value. -/
theorem arl_box {x : Operand} {y : AV} (hd : o.dst = some t) (hw : awanted ops fr o = true) (ho : o.op = .box e x) (hs : szOf P e = some s) (hx : aeval fr x = y) (hc : y.cells = cs) (hy : y.solid = true) (hfr : st.get (n0 + i) = none)
    (hk : ∀ s', s'.n = st.n → (WF st → n0 + i < st.n → WF s') → Ext st s' → s'.get (n0 + i) = some ⟨cs, e, true, n0 + i⟩ → (∀ d, d ≠ n0 + i → st.get d = none → s'.get d = none) → ARL P sd ops n0 (i + 1) l (aput fr (some t) (.ptr (n0 + i) 0)) s' Q) : ARL P sd ops n0 i (o :: l) fr st Q :=
  arl_cons hd hw (y := .ptr (n0 + i) 0) (st1 := st.put (n0 + i) ⟨cs, e, true, n0 + i⟩) (by simp only [aop, ho, hs, hx, hy, hc, if_true]) rfl (by rw [ho]; rfl)
    (hk _ rfl (fun h1 h2 => h1.put h2 h2) (Keeps.putF (Keeps.refl _ _) hfr) (get_put _ _) (fun d hd h => by rw [get_put_ne _ hd]; exact h))
/-- A new variable at its zero value. -/
theorem arl_alloc (hd : o.dst = some t) (hw : awanted ops fr o = true) (ho : o.op = .alloc e) (hs : szOf P e = some s) (hz : zcells P e = some cs) (hfr : st.get (n0 + i) = none)
    (hk : ∀ s', s'.n = st.n → (WF st → n0 + i < st.n → WF s') → Ext st s' → s'.get (n0 + i) = some ⟨cs, e, true, n0 + i⟩ → (∀ d, d ≠ n0 + i → st.get d = none → s'.get d = none) → ARL P sd ops n0 (i + 1) l (aput fr (some t) (.ptr (n0 + i) 0)) s' Q) : ARL P sd ops n0 i (o :: l) fr st Q :=
  arl_cons hd hw (y := .ptr (n0 + i) 0) (st1 := st.put (n0 + i) ⟨cs, e, true, n0 + i⟩) (by simp only [aop, ho, hs, hz]) rfl (by rw [ho]; rfl)
    (hk _ rfl (fun h1 h2 => h1.put h2 h2) (Keeps.putF (Keeps.refl _ _) hfr) (get_put _ _) (fun d hd h => by rw [get_put_ne _ hd]; exact h))
/-- A whole variable is written. -/
theorem arl_storeW {p w : Operand} {y : AV} {j g : Nat} {cs0 : List AV} {e0 : TypeId} (hd : o.dst = none) (hw : awanted ops fr o = true) (ho : o.op = .store e p w) (hp : aeval fr p = .ptr j 0) (hy : aeval fr w = y) (h : st.get j = some ⟨cs0, e0, true, g⟩) (hs : szOf P e = some s) (hc : y.cells = cs) (hl : cs.length = s) (hl0 : cs0.length = s) (h1 : cs.all AV.one = true) (h2 : y.solid = true)
    (hk : ∀ s', s'.n = st.n → (WF st → WF s') → Keeps (fun x => x = g) st s' → s'.get j = some ⟨cs, e0, true, g⟩ → (∀ d, d ≠ j → st.get d = none → s'.get d = none) → ARL P sd ops n0 (i + 1) l fr s' Q) : ARL P sd ops n0 i (o :: l) fr st Q := by
  have hsp : splice cs0 0 cs = cs := by
    simp only [splice, List.take_zero, List.nil_append, Nat.zero_add]
    rw [List.drop_of_length_le (by omega), List.append_nil]
  refine arl_none hd hw (y := .pl undef) (st1 := (st.touch g 0 s).put j ⟨cs, e0, true, g⟩) ?_ rfl (by rw [ho]; rfl) (hk _ rfl (fun h1 => (h1.touch _ _ _).put (h1 _ _ h).1 (h1 _ _ h).2) ⟨Nat.le_refl _, fun q oq hq hg => ?_, fun _ _ h _ _ => h⟩ (get_put _ _) (fun d hd h => by rw [get_put_ne _ hd]; simp [St.touch, h]))
  · simp only [aop, ho, hp, hy, astore, h, hs]
    rw [if_pos ⟨trivial, by rw [hc]; exact hl, by omega, h2, by rw [hc]; exact h1⟩, hc, hsp]
    rfl
  · have hne : q ≠ j := fun e => by subst e; rw [h] at hq; cases hq; exact hg rfl
    simp [St.put, hne, St.touch, hq, hg]
/-- One cell of a variable is written. -/
theorem arl_storeX {p w : Operand} {y : AV} {j g off : Nat} {cs0 : List AV} {e0 : TypeId} (hd : o.dst = none) (hw : awanted ops fr o = true) (ho : o.op = .store e p w) (hp : aeval fr p = .ptr j off) (hy : aeval fr w = y) (h : st.get j = some ⟨cs0, e0, true, g⟩) (hs : szOf P e = some 1) (hc : y.cells = [y]) (h1 : y.one = true) (h2 : y.solid = true) (hl : off < cs0.length)
    (hk : ∀ s', s'.n = st.n → (WF st → WF s') → Keeps (fun x => x = g) st s' → s'.get j = some ⟨cs0.set off y, e0, true, g⟩ → (∀ d, d ≠ j → st.get d = none → s'.get d = none) → ARL P sd ops n0 (i + 1) l fr s' Q) : ARL P sd ops n0 i (o :: l) fr st Q := by
  have hsp : splice cs0 off [y] = cs0.set off y := by
    apply List.ext_getElem?
    intro q
    simp only [splice, List.length_cons, List.length_nil, List.getElem?_set]
    by_cases h1 : q < off
    · rw [List.append_assoc, List.getElem?_append_left (by simp; omega), List.getElem?_take, if_pos h1, if_neg (by omega)]
    · by_cases h2 : q = off
      · subst h2
        rw [List.append_assoc, List.getElem?_append_right (by simp; omega)]
        simp [hl, Nat.min_eq_left (Nat.le_of_lt hl)]
      · rw [List.append_assoc, List.getElem?_append_right (by simp; omega), List.getElem?_append_right (by simp; omega), List.getElem?_drop, if_neg (by omega)]
        congr 1
        simp
        omega
  refine arl_none hd hw (y := .pl undef) (st1 := (st.touch g off 1).put j ⟨cs0.set off y, e0, true, g⟩) ?_ rfl (by rw [ho]; rfl) (hk _ rfl (fun h1 => (h1.touch _ _ _).put (h1 _ _ h).1 (h1 _ _ h).2) ⟨Nat.le_refl _, fun q oq hq hg => ?_, fun _ _ h _ _ => h⟩ (get_put _ _) (fun d hd h => by rw [get_put_ne _ hd]; simp [St.touch, h]))
  · simp only [aop, ho, hp, hy, astore, h, hs]
    rw [if_pos ⟨trivial, by rw [hc]; rfl, by omega, h2, by rw [hc]; simp [h1]⟩, hc, hsp]
    rfl
  · have hne : q ≠ j := fun e => by subst e; rw [h] at hq; cases hq; exact hg rfl
    simp [St.put, hne, St.touch, hq, hg]
end
/-- 'append(v, x...)', v one's own; the store is well formed. -/
theorem arl_appW {sd : Bool} {ops : Array Oper} {n0 i : Nat} {o : Oper} {l : List Oper} {fr : AFr} {st : St} {Q : AFr → St → Prop} {t a b : Nat} {K K' : Nat → Prop} {xs ns : List Int} (hd : o.dst = some t) (hw : awanted ops fr o = true) (ho : o.op = .call ⟨.builtin .append, #[.tmp a, .tmp b], #[28, 28]⟩)
    (hv : OwB st K (fr a) xs) (hx : RdB st K' (fr b) ns) (hid : K (n0 + i)) (hb : xs.length + ns.length ≤ 140737488355328)
    (hk : ∀ y s, OwB s K y (xs ++ ns) → s.n = st.n → (∀ (G : Nat → Prop) (st0 : St), WF st0 → Keeps G st0 st → st0.n ≤ n0 + i → (∀ g, K g → G g ∨ st0.n ≤ g) → Keeps G st0 s) → (WF st → n0 + i < st.n → WF s) → ARL Tryd.prog sd ops n0 (i + 1) l (aput fr (some t) y) s Q) : ARL Tryd.prog sd ops n0 i (o :: l) fr st Q := by
  obtain ⟨y, s, h1, h2, h3, h4, h6, h5⟩ := app_own hid hv hx hb
  refine arl_cons hd hw ?_ h2 (by rw [ho]; rfl) (hk y s h4 h3 h5 (fun h7 h8 => aappend_wf h1 h7 h8))
  have e : aop Tryd.prog (acall Tryd.prog 0) (n0 + i) o fr st = aappend Tryd.prog st (n0 + i) 28 (fr a) (fr b) := by
    simp only [aop, ho, abuiltin, List.map_cons, List.map_nil, aeval]
    rfl
  rw [e, h1]
end Go.Proofs.YtjpgpkkbmoehdaaDoor.Ra
