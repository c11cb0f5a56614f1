/- Stores: what is told of them stays true of names and groups; frames. -/
import Derived.Test.YtjpgpkkbmoehdaaDoorRl
namespace Go.Proofs.YtjpgpkkbmoehdaaDoor.Ra
open Go Go.RowKit
set_option linter.unusedVariables false
set_option linter.unusedSimpArgs false
/-- Names and groups lie below the next name. -/
def WF (st : St) : Prop := ∀ i o, st.get i = some o → i < st.n ∧ o.grp < st.n
theorem WF.bump {st : St} (h : WF st) (k : Nat) : WF (st.bump k) := fun i o ho => by
  have := h i o ho
  simp only [St.bump]
  omega
theorem WF.put {st : St} (h : WF st) {i : Nat} {o : AObj} (hi : i < st.n) (hg : o.grp < st.n) : WF (st.put i o) := fun j o' ho => by
  by_cases e : j = i
  · subst e
    simp only [St.put, if_true, Option.some.injEq] at ho
    subst ho
    exact ⟨hi, hg⟩
  · simp only [St.put, e, if_false] at ho
    exact h j o' ho
theorem WF.touch {st : St} (h : WF st) (g off n : Nat) : WF (st.touch g off n) := fun j o' ho => by
  obtain ⟨y, hy, e, _⟩ := touch_inv ho
  rw [e]
  exact h j y hy
theorem WF.kill {st : St} (h : WF st) (g : Nat) : WF (st.kill g) := fun j o' ho => h j o' (kill_inv ho).1
section
variable {P : Program}
def CallWF (call : ACall) : Prop := ∀ f xs st r st', call f xs st = some (r, st') → WF st → WF st' ∧ st.n ≤ st'.n
theorem aappend_wf {id : Nat} {t : TypeId} {s x y : AV} {st st' : St} (ha : aappend P st id t s x = some (y, st')) (h : WF st) (hid : id < st.n) : WF st' := by
  unfold aappend at ha
  repeat' split at ha
  all_goals first
    | (cases ha; done)
    | (simp only [Option.some.injEq, Prod.mk.injEq] at ha; obtain ⟨_, rfl⟩ := ha; exact h)
    | (simp only [Option.some.injEq, Prod.mk.injEq] at ha; obtain ⟨_, rfl⟩ := ha; exact h.put hid hid)
    | (simp only [Option.some.injEq, Prod.mk.injEq] at ha; obtain ⟨_, rfl⟩ := ha; rename_i h1 h2 h3 h4; exact WF.put (h.touch _ _ _) hid (h _ _ h1).2)
    | (simp only [Option.some.injEq, Prod.mk.injEq] at ha; obtain ⟨_, rfl⟩ := ha; refine WF.put (h.kill _) ?_ ?_ <;> exact hid)
theorem made_grp {t : TypeId} {id len : Nat} {ps : List (Nat × AV)} {r : AV × AObj} (h : abuildSlice P t id len ps = some r) : r.2.grp = id := by
  unfold abuildSlice at h
  repeat' split at h
  all_goals first
    | (cases h; done)
    | (obtain ⟨cs, _, rfl⟩ := Option.map_eq_some_iff.1 h; rfl)
theorem makeSlice_grp {t : TypeId} {id : Nat} {l c : AV} {r : AV × AObj} (h : amakeSlice P t id l c = some r) : r.2.grp = id := by
  unfold amakeSlice at h
  repeat' split at h
  all_goals first
    | (cases h; done)
    | (simp only [Option.some.injEq] at h; rw [← h])
theorem aop_wf {call : ACall} (hc : CallWF call) {id : Nat} {o : Oper} {fr : AFr} {st st' : St} {y : AV} (ha : aop P call id o fr st = some (y, st')) (h : WF st) (hid : id < st.n) : WF st' ∧ st.n ≤ st'.n := by
  have same : st' = st → WF st' ∧ st.n ≤ st'.n := fun e => by rw [e]; exact ⟨h, Nat.le_refl _⟩
  have quiet : ∀ {z : Option AV}, (z.map fun v => (v, st)) = some (y, st') → WF st' ∧ st.n ≤ st'.n := by
    intro z hz
    obtain ⟨v, _, hv⟩ := Option.map_eq_some_iff.1 hz
    simp only [Prod.mk.injEq] at hv
    exact same hv.2.symm
  have quietV : ∀ {z : Option Value}, (z.map fun v => (AV.pl v, st)) = some (y, st') → WF st' ∧ st.n ≤ st'.n := by
    intro z hz
    obtain ⟨v, _, hv⟩ := Option.map_eq_some_iff.1 hz
    simp only [Prod.mk.injEq] at hv
    exact same hv.2.symm
  unfold aop at ha
  split at ha
  · simp only [Option.some.injEq, Prod.mk.injEq] at ha; exact same ha.2.symm
  · simp only [Option.some.injEq, Prod.mk.injEq] at ha; exact same ha.2.symm
  · split at ha
    · simp only [Option.some.injEq, Prod.mk.injEq] at ha; exact same ha.2.symm
    · cases ha
  · split at ha
    · simp only [Option.some.injEq, Prod.mk.injEq] at ha; rw [← ha.2]; exact ⟨h.put hid hid, Nat.le_refl _⟩
    · cases ha
  · split at ha
    · split at ha
      · simp only [Option.some.injEq, Prod.mk.injEq] at ha; rw [← ha.2]; exact ⟨h.put hid hid, Nat.le_refl _⟩
      · cases ha
    · cases ha
  · exact quiet ha
  · obtain ⟨r, hr, hv⟩ := Option.map_eq_some_iff.1 ha
    simp only [Prod.mk.injEq] at hv
    rw [← hv.2]
    exact ⟨h.put hid (by rw [made_grp hr]; exact hid), Nat.le_refl _⟩
  · obtain ⟨r, hr, hv⟩ := Option.map_eq_some_iff.1 ha
    simp only [Prod.mk.injEq] at hv
    rw [← hv.2]
    exact ⟨h.put hid (by rw [makeSlice_grp hr]; exact hid), Nat.le_refl _⟩
  · exact quiet ha
  · obtain ⟨s, hs, hv⟩ := Option.map_eq_some_iff.1 ha
    simp only [Prod.mk.injEq] at hv
    rw [← hv.2]
    unfold astore at hs
    repeat' split at hs
    all_goals first
      | (cases hs; done)
      | skip
    rename_i o' ho' _ _ _ _
    simp only [Option.some.injEq] at hs
    rw [← hs]
    have := h _ _ ho'
    exact ⟨(h.touch _ _ _).put this.1 this.2, Nat.le_refl _⟩
  · split at ha
    · simp only [Option.some.injEq, Prod.mk.injEq] at ha; exact same ha.2.symm
    · simp only [Option.some.injEq, Prod.mk.injEq] at ha; exact same ha.2.symm
    · cases ha
  · exact quietV ha
  · exact quietV ha
  · unfold aconvert amark at ha
    repeat' split at ha
    all_goals first
      | (cases ha; done)
      | (simp only [Option.some.injEq, Prod.mk.injEq] at ha; rw [← ha.2]; exact ⟨(h.kill _).put hid hid, Nat.le_refl _⟩)
      | (simp only [Option.some.injEq, Prod.mk.injEq] at ha; exact same ha.2.symm)
      | (simp only [Option.some.injEq, Prod.mk.injEq] at ha; rw [← ha.2]; exact ⟨h.put hid hid, Nat.le_refl _⟩)
      | (obtain ⟨v, _, hv⟩ := Option.map_eq_some_iff.1 ha; simp only [Prod.mk.injEq] at hv; exact same hv.2.symm)
  · split at ha
    · exact quiet ha
    · cases ha
  · exact quiet ha
  · split at ha
    · split at ha
      · exact quiet ha
      · cases ha
    · cases ha
  · exact quiet ha
  · exact quiet ha
  · split at ha
    · exact quiet ha
    · cases ha
  · split at ha
    · simp only [Option.some.injEq, Prod.mk.injEq] at ha; exact same ha.2.symm
    · cases ha
  · split at ha
    · unfold abuiltin at ha
      split at ha
      · exact quiet ha
      · exact quiet ha
      · exact quiet ha
      · split at ha
        · split at ha
          · exact ⟨aappend_wf ha h hid, by rw [aappend_n ha]; exact Nat.le_refl _⟩
          · cases ha
        · cases ha
      · cases ha
    · split at ha
      · exact hc _ _ _ _ _ ha h
      · cases ha
    · cases ha
  · cases ha
theorem arun_wf {call : ACall} (hc : CallWF call) {sd : Bool} {ops : Array Oper} {n0 : Nat} : ∀ (l : List Nat) (fr : AFr) (st : St) (r : AFr × St), arun P call sd ops n0 l fr st = some r → WF st → n0 + ops.size ≤ st.n → WF r.2 ∧ st.n ≤ r.2.n
  | [], fr, st, r, ha, h, _ => by simp only [arun, Option.some.injEq] at ha; rw [← ha]; exact ⟨h, Nat.le_refl _⟩
  | i :: l, fr, st, r, ha, h, hn => by
    simp only [arun] at ha
    obtain ⟨⟨fr1, st1⟩, h1, h2⟩ := Option.bind_eq_some_iff.1 ha
    have h3 : WF st1 ∧ st.n ≤ st1.n := by
      cases ho : ops[i]? with
      | none => unfold astep at h1; simp only [ho] at h1; cases h1
      | some o =>
        have hlt : i < ops.size := (Array.getElem?_eq_some_iff.1 ho).1
        by_cases cw : awanted ops fr o = true
        · obtain ⟨y, h4, _, _⟩ := (wanted_step ho cw).1 h1
          exact aop_wf hc h4 h (by omega)
        · rw [unwanted_step ho cw] at h1
          simp only [Option.some.injEq, Prod.mk.injEq] at h1
          rw [← h1.2]
          exact ⟨h, Nat.le_refl _⟩
    have h5 := arun_wf hc l fr1 st1 r h2 h3.1 (by omega)
    exact ⟨h5.1, by omega⟩
theorem acode_wf {call : ACall} (hc : CallWF call) (n : Nat) : ∀ (x : Code) (fr : AFr) (st : St) (e : AExit) (fr' : AFr) (st' : St), acode P call n x fr st = some (e, fr', st') → WF st → WF st' ∧ st.n ≤ st'.n
  | .skip, fr, st, e, fr', st', ha, h => by simp only [acode, Option.some.injEq, Prod.mk.injEq] at ha; rw [← ha.2.2]; exact ⟨h, Nat.le_refl _⟩
  | .exit _, fr, st, e, fr', st', ha, h => by simp only [acode, Option.some.injEq, Prod.mk.injEq] at ha; rw [← ha.2.2]; exact ⟨h, Nat.le_refl _⟩
  | .ret, fr, st, e, fr', st', ha, h => by simp only [acode, Option.some.injEq, Prod.mk.injEq] at ha; rw [← ha.2.2]; exact ⟨h, Nat.le_refl _⟩
  | .region _ ops draw, fr, st, e, fr', st', ha, h => by
    simp only [acode] at ha
    obtain ⟨r, h1, h2⟩ := Option.map_eq_some_iff.1 ha
    simp only [Prod.mk.injEq] at h2
    unfold aregion at h1
    split at h1
    · cases h1
    have := arun_wf hc _ _ _ _ h1 (h.bump _) (by simp only [St.bump]; omega)
    rw [← h2.2.2]
    simp only [St.bump] at this
    exact ⟨this.1, by omega⟩
  | .seq a b, fr, st, e, fr', st', ha, h => by
    simp only [acode] at ha
    split at ha
    · rename_i fr1 st1 h1
      have i1 := acode_wf hc n a _ _ _ _ _ h1 h
      have i2 := acode_wf hc n b _ _ _ _ _ ha i1.1
      exact ⟨i2.1, by omega⟩
    · exact acode_wf hc n a _ _ _ _ _ ha h
  | .cond q a b, fr, st, e, fr', st', ha, h => by
    simp only [acode] at ha
    split at ha
    · split at ha
      · exact acode_wf hc n a _ _ _ _ _ ha h
      · exact acode_wf hc n b _ _ _ _ _ ha h
    · cases ha
  | .block id a, fr, st, e, fr', st', ha, h => by
    simp only [acode] at ha
    split at ha
    · rename_i i fr1 st1 h1
      have i1 := acode_wf hc n a _ _ _ _ _ h1 h
      split at ha
      · simp only [Option.some.injEq, Prod.mk.injEq] at ha; rw [← ha.2.2]; exact i1
      · simp only [Option.some.injEq, Prod.mk.injEq] at ha; rw [← ha.2.2]; exact i1
    · exact acode_wf hc n a _ _ _ _ _ ha h
  | .loop a, fr, st, e, fr', st', ha, h => by
    simp only [acode] at ha
    have key : ∀ (m : Nat) (fr : AFr) (st : St), aloop (acode P call n a) m fr st = some (e, fr', st') → WF st → WF st' ∧ st.n ≤ st'.n := by
      intro m
      induction m with
      | zero => intro fr st hl; cases hl
      | succ m ih =>
        intro fr st hl hw
        simp only [aloop] at hl
        split at hl
        · rename_i fr1 st1 h1
          have i1 := acode_wf hc n a _ _ _ _ _ h1 hw
          have i2 := ih fr1 st1 hl i1.1
          exact ⟨i2.1, by omega⟩
        · exact acode_wf hc n a _ _ _ _ _ hl hw
    exact key n fr st ha h
  | .rangeFunc .., fr, st, e, fr', st', ha, h => by simp [acode] at ha
  | .scope _, fr, st, e, fr', st', ha, h => by simp [acode] at ha
  | .label _, fr, st, e, fr', st', ha, h => by simp [acode] at ha
  | .goto _, fr, st, e, fr', st', ha, h => by simp [acode] at ha
  | .refuse _, fr, st, e, fr', st', ha, h => by simp [acode] at ha
theorem acall_wf : ∀ k, CallWF (acall P k)
  | 0 => by intro f xs st r st' h; cases h
  | k + 1 => by
    intro f xs st r st' h hw
    simp only [acall] at h
    split at h
    · exact orac_wf (acall_wf k) h hw
    split at h
    · unfold afunc at h
      split at h
      · split at h
        · split at h
          · rename_i h1
            obtain ⟨_, _, h3⟩ := Option.map_eq_some_iff.1 h
            simp only [Prod.mk.injEq] at h3
            rw [← h3.2]
            exact acode_wf (acall_wf k) k _ _ _ _ _ _ h1 hw
          · rename_i h1
            obtain ⟨_, _, h3⟩ := Option.map_eq_some_iff.1 h
            simp only [Prod.mk.injEq] at h3
            rw [← h3.2]
            exact acode_wf (acall_wf k) k _ _ _ _ _ _ h1 hw
          · cases h
        · cases h
      · cases h
    · cases h
theorem ACalls.wf {f : FuncId} {xs : List AV} {st : St} {Q : AV → St → Prop} (h : ACalls P f xs st Q) (hw : WF st) : ACalls P f xs st (fun r s => WF s ∧ st.n ≤ s.n ∧ Q r s) :=
  let ⟨k, r, st', h1, h2⟩ := h
  have h3 := acall_wf k f xs st r st' h1 hw
  ⟨k, r, st', h1, h3.1, h3.2, h2⟩
theorem AW.wf {c : Code} {fr : AFr} {st : St} {Q : AExit → AFr → St → Prop} (h : AW P c fr st Q) (hw : WF st) : AW P c fr st (fun e fr' s => WF s ∧ st.n ≤ s.n ∧ Q e fr' s) :=
  let ⟨k, e, fr', st', h1, h2⟩ := h
  have h3 := acode_wf (acall_wf k) k c fr st e fr' st' h1 hw
  ⟨k, e, fr', st', h1, h3.1, h3.2, h2⟩
end
theorem absSt_wf (w : World) : WF (absSt w) := fun i o h => by
  simp only [absSt] at h
  split at h
  · rename_i c e fz hb
    simp only [Option.some.injEq] at h
    subst h
    have hlt : i < w.heap.size := (Array.getElem?_eq_some_iff.1 hb).1
    exact ⟨hlt, hlt⟩
  · cases h
/-- Whatever is not of a group in G stays. -/
structure Keeps (G : Nat → Prop) (st st' : St) : Prop where
  n : st.n ≤ st'.n
  get : ∀ i o, st.get i = some o → ¬ G o.grp → st'.get i = some o
  ch : ∀ i c, st.ch i = some c → i < st.n → ¬ G i → st'.ch i = some c
theorem Keeps.refl (G : Nat → Prop) (st : St) : Keeps G st st := ⟨Nat.le_refl _, fun _ _ h _ => h, fun _ _ h _ _ => h⟩
theorem Keeps.trans {G : Nat → Prop} {a b c : St} (h : Keeps G a b) (k : Keeps G b c) : Keeps G a c := ⟨Nat.le_trans h.n k.n, fun i o ho hg => k.get i o (h.get i o ho hg) hg, fun i c hc hi hg => k.ch i c (h.ch i c hc hi hg) (Nat.lt_of_lt_of_le hi h.n) hg⟩
theorem Keeps.mono {G G' : Nat → Prop} {a b : St} (h : Keeps G a b) (hg : ∀ g, G g → G' g) : Keeps G' a b := ⟨h.n, fun i o ho hn => h.get i o ho fun x => hn (hg _ x), fun i c hc hi hn => h.ch i c hc hi fun x => hn (hg _ x)⟩
theorem Keeps.bump (G : Nat → Prop) (st : St) (k : Nat) : Keeps G st (st.bump k) := ⟨by simp [St.bump], fun _ _ h _ => h, fun _ _ h _ _ => h⟩
/-- A new object. -/
theorem Keeps.put {G : Nat → Prop} {st s : St} (h : Keeps G st s) (hw : WF st) {i : Nat} {o : AObj} (hi : st.n ≤ i) : Keeps G st (s.put i o) := ⟨h.n, fun j o' ho hg => by
  have := (hw j o' ho).1
  have hne : j ≠ i := by omega
  simp only [St.put, hne, if_false]
  exact h.get j o' ho hg, h.ch⟩
theorem Keeps.touch {G : Nat → Prop} {st s : St} (h : Keeps G st s) (hw : WF st) {g : Nat} (hg : G g ∨ st.n ≤ g) (off n : Nat) : Keeps G st (s.touch g off n) := ⟨h.n, fun j o' ho hn => by
  have h1 := h.get j o' ho hn
  have h2 := (hw j o' ho).2
  have hne : o'.grp ≠ g := fun e => by
    rcases hg with hg | hg
    · exact hn (by rw [e]; exact hg)
    · omega
  simp [St.touch, h1, hne], h.ch⟩
theorem Keeps.kill {G : Nat → Prop} {st s : St} (h : Keeps G st s) (hw : WF st) {g : Nat} (hg : G g ∨ st.n ≤ g) : Keeps G st (s.kill g) := ⟨h.n, fun j o' ho hn => by
  have h1 := h.get j o' ho hn
  have h2 := (hw j o' ho).2
  have hne : o'.grp ≠ g := fun e => by
    rcases hg with hg | hg
    · exact hn (by rw [e]; exact hg)
    · omega
  simp [St.kill, h1, hne], h.ch⟩
/-- A store into an object of a group in G, or a new one. -/
theorem Keeps.write {G : Nat → Prop} {st s : St} (h : Keeps G st s) (hw : WF st) {i : Nat} {o o2 : AObj} (hs : s.get i = some o) (hg : G o.grp ∨ st.n ≤ o.grp) (off n : Nat) : Keeps G st ((s.touch o.grp off n).put i o2) := ⟨h.n, fun j o' ho hn => by
  have h1 := (h.touch hw hg off n).get j o' ho hn
  have h3 := h.get j o' ho hn
  have h2 := (hw j o' ho).2
  have hne : j ≠ i := fun e => by
    subst e
    rw [hs] at h3
    cases h3
    rcases hg with hg | hg
    · exact hn hg
    · omega
  simp only [St.put, hne, if_false]
  exact h1, h.ch⟩
/-- .. behind a call. -/
theorem Keeps.call {G G' : Nat → Prop} {st s s' : St} (h : Keeps G st s) (k : Keeps G' s s') (hw : WF st) (hg : ∀ g, G' g → G g ∨ st.n ≤ g) : Keeps G st s' := ⟨Nat.le_trans h.n k.n, fun j o' ho hn => by
  refine k.get j o' (h.get j o' ho hn) fun hx => ?_
  have h2 := (hw j o' ho).2
  rcases hg _ hx with h3 | h3
  · exact hn h3
  · omega, fun i c hc hi hn => k.ch i c (h.ch i c hc hi hn) (Nat.lt_of_lt_of_le hi h.n) fun hx => by
  rcases hg _ hx with h3 | h3
  · exact hn h3
  · omega⟩
abbrev Ext (st st' : St) : Prop := Keeps (fun _ => False) st st'
end Go.Proofs.YtjpgpkkbmoehdaaDoor.Ra
