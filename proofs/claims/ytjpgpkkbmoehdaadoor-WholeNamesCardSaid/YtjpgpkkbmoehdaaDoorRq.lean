/- What names nothing and is no new name names nothing behind a call. -/
import Derived.Test.YtjpgpkkbmoehdaaDoorRm
namespace Go.Proofs.YtjpgpkkbmoehdaaDoor.Ra
open Go Go.RowKit
set_option linter.unusedVariables false
set_option linter.unusedSimpArgs false
section
variable {P : Program} {d : Nat}
def WFD (d : Nat) (st : St) : Prop := d < st.n ∧ st.get d = none
theorem WFD.bump {st : St} (h : WFD d st) (k : Nat) : WFD d (st.bump k) := ⟨by have := h.1; simp only [St.bump]; omega, h.2⟩
theorem WFD.put {st : St} (h : WFD d st) {i : Nat} {o : AObj} (hi : i ≠ d) : WFD d (st.put i o) := ⟨h.1, by simp only [St.put]; rw [if_neg (Ne.symm hi)]; exact h.2⟩
theorem WFD.touch {st : St} (h : WFD d st) (g off n : Nat) : WFD d (st.touch g off n) := ⟨h.1, by simp [St.touch, h.2]⟩
theorem WFD.kill {st : St} (h : WFD d st) (g : Nat) : WFD d (st.kill g) := ⟨h.1, by simp [St.kill, h.2]⟩
def CallWD (d : Nat) (call : ACall) : Prop := ∀ f xs st r st', call f xs st = some (r, st') → WFD d st → WFD d st'
theorem aappend_wd {id : Nat} {t : TypeId} {s x y : AV} {st st' : St} (ha : aappend P st id t s x = some (y, st')) (h : WFD d st) (hid : id ≠ d) : WFD d st' := by
  unfold aappend at ha
  repeat' split at ha
  all_goals first
    | (cases ha; done)
    | (simp only [Option.some.injEq, Prod.mk.injEq] at ha; obtain ⟨_, rfl⟩ := ha; exact h)
    | (simp only [Option.some.injEq, Prod.mk.injEq] at ha; obtain ⟨_, rfl⟩ := ha; exact h.put hid)
    | (simp only [Option.some.injEq, Prod.mk.injEq] at ha; obtain ⟨_, rfl⟩ := ha; exact WFD.put (h.touch _ _ _) hid)
    | (simp only [Option.some.injEq, Prod.mk.injEq] at ha; obtain ⟨_, rfl⟩ := ha; exact WFD.put (h.kill _) hid)
theorem aop_wd {call : ACall} (hc : CallWD d call) {id : Nat} {o : Oper} {fr : AFr} {st st' : St} {y : AV} (ha : aop P call id o fr st = some (y, st')) (h : WFD d st) (hid : id ≠ d) : WFD d st' := by
  have same : st' = st → WFD d st' := fun e => by rw [e]; exact h
  have quiet : ∀ {z : Option AV}, (z.map fun v => (v, st)) = some (y, st') → WFD d st' := by
    intro z hz
    obtain ⟨v, _, hv⟩ := Option.map_eq_some_iff.1 hz
    simp only [Prod.mk.injEq] at hv
    exact same hv.2.symm
  have quietV : ∀ {z : Option Value}, (z.map fun v => (AV.pl v, st)) = some (y, st') → WFD d st' := by
    intro z hz
    obtain ⟨v, _, hv⟩ := Option.map_eq_some_iff.1 hz
    simp only [Prod.mk.injEq] at hv
    exact same hv.2.symm
  unfold aop at ha
  split at ha
  · simp only [Option.some.injEq, Prod.mk.injEq] at ha; exact same ha.2.symm
  · simp only [Option.some.injEq, Prod.mk.injEq] at ha; exact same ha.2.symm
  · split at ha
    · simp only [Option.some.injEq, Prod.mk.injEq] at ha; exact same ha.2.symm
    · cases ha
  · split at ha
    · simp only [Option.some.injEq, Prod.mk.injEq] at ha; rw [← ha.2]; exact h.put hid
    · cases ha
  · split at ha
    · split at ha
      · simp only [Option.some.injEq, Prod.mk.injEq] at ha; rw [← ha.2]; exact h.put hid
      · cases ha
    · cases ha
  · exact quiet ha
  · obtain ⟨r, hr, hv⟩ := Option.map_eq_some_iff.1 ha
    simp only [Prod.mk.injEq] at hv
    rw [← hv.2]
    exact h.put hid
  · obtain ⟨r, hr, hv⟩ := Option.map_eq_some_iff.1 ha
    simp only [Prod.mk.injEq] at hv
    rw [← hv.2]
    exact h.put hid
  · exact quiet ha
  · obtain ⟨s, hs, hv⟩ := Option.map_eq_some_iff.1 ha
    simp only [Prod.mk.injEq] at hv
    rw [← hv.2]
    unfold astore at hs
    repeat' split at hs
    all_goals first
      | (cases hs; done)
      | skip
    rename_i o' ho' _ _ _ _
    simp only [Option.some.injEq] at hs
    rw [← hs]
    refine (h.touch _ _ _).put fun e => ?_
    rw [e, h.2] at ho'
    cases ho'
  · split at ha
    · simp only [Option.some.injEq, Prod.mk.injEq] at ha; exact same ha.2.symm
    · simp only [Option.some.injEq, Prod.mk.injEq] at ha; exact same ha.2.symm
    · cases ha
  · exact quietV ha
  · exact quietV ha
  · unfold aconvert amark at ha
    repeat' split at ha
    all_goals first
      | (cases ha; done)
      | (simp only [Option.some.injEq, Prod.mk.injEq] at ha; rw [← ha.2]; exact (h.kill _).put hid)
      | (simp only [Option.some.injEq, Prod.mk.injEq] at ha; exact same ha.2.symm)
      | (simp only [Option.some.injEq, Prod.mk.injEq] at ha; rw [← ha.2]; exact h.put hid)
      | (obtain ⟨v, _, hv⟩ := Option.map_eq_some_iff.1 ha; simp only [Prod.mk.injEq] at hv; exact same hv.2.symm)
  · split at ha
    · exact quiet ha
    · cases ha
  · exact quiet ha
  · split at ha
    · split at ha
      · exact quiet ha
      · cases ha
    · cases ha
  · exact quiet ha
  · exact quiet ha
  · split at ha
    · exact quiet ha
    · cases ha
  · split at ha
    · simp only [Option.some.injEq, Prod.mk.injEq] at ha; exact same ha.2.symm
    · cases ha
  · split at ha
    · unfold abuiltin at ha
      split at ha
      · exact quiet ha
      · exact quiet ha
      · exact quiet ha
      · split at ha
        · split at ha
          · exact aappend_wd ha h hid
          · cases ha
        · cases ha
      · cases ha
    · split at ha
      · exact hc _ _ _ _ _ ha h
      · cases ha
    · cases ha
  · cases ha
theorem arun_wd {call : ACall} (hc : CallWD d call) {sd : Bool} {ops : Array Oper} {n0 : Nat} : ∀ (l : List Nat) (fr : AFr) (st : St) (r : AFr × St), arun P call sd ops n0 l fr st = some r → WFD d st → d < n0 → WFD d r.2
  | [], fr, st, r, ha, h, _ => by simp only [arun, Option.some.injEq] at ha; rw [← ha]; exact h
  | i :: l, fr, st, r, ha, h, hn => by
    simp only [arun] at ha
    obtain ⟨⟨fr1, st1⟩, h1, h2⟩ := Option.bind_eq_some_iff.1 ha
    have h3 : WFD d st1 := by
      cases ho : ops[i]? with
      | none => unfold astep at h1; simp only [ho] at h1; cases h1
      | some o =>
        have hlt : i < ops.size := (Array.getElem?_eq_some_iff.1 ho).1
        by_cases cw : awanted ops fr o = true
        · obtain ⟨y, h4, _, _⟩ := (wanted_step ho cw).1 h1
          exact aop_wd hc h4 h (by omega)
        · rw [unwanted_step ho cw] at h1
          simp only [Option.some.injEq, Prod.mk.injEq] at h1
          rw [← h1.2]
          exact h
    exact arun_wd hc l fr1 st1 r h2 h3 hn
theorem acode_wd {call : ACall} (hc : CallWD d call) (n : Nat) : ∀ (x : Code) (fr : AFr) (st : St) (e : AExit) (fr' : AFr) (st' : St), acode P call n x fr st = some (e, fr', st') → WFD d st → WFD d st'
  | .skip, fr, st, e, fr', st', ha, h => by simp only [acode, Option.some.injEq, Prod.mk.injEq] at ha; rw [← ha.2.2]; exact h
  | .exit _, fr, st, e, fr', st', ha, h => by simp only [acode, Option.some.injEq, Prod.mk.injEq] at ha; rw [← ha.2.2]; exact h
  | .ret, fr, st, e, fr', st', ha, h => by simp only [acode, Option.some.injEq, Prod.mk.injEq] at ha; rw [← ha.2.2]; exact h
  | .region _ ops draw, fr, st, e, fr', st', ha, h => by
    simp only [acode] at ha
    obtain ⟨r, h1, h2⟩ := Option.map_eq_some_iff.1 ha
    simp only [Prod.mk.injEq] at h2
    unfold aregion at h1
    split at h1
    · cases h1
    have := arun_wd hc _ _ _ _ h1 (h.bump _) h.1
    rw [← h2.2.2]
    exact this
  | .seq a b, fr, st, e, fr', st', ha, h => by
    simp only [acode] at ha
    split at ha
    · rename_i fr1 st1 h1
      have i1 := acode_wd hc n a _ _ _ _ _ h1 h
      exact acode_wd hc n b _ _ _ _ _ ha i1
    · exact acode_wd hc n a _ _ _ _ _ ha h
  | .cond q a b, fr, st, e, fr', st', ha, h => by
    simp only [acode] at ha
    split at ha
    · split at ha
      · exact acode_wd hc n a _ _ _ _ _ ha h
      · exact acode_wd hc n b _ _ _ _ _ ha h
    · cases ha
  | .block id a, fr, st, e, fr', st', ha, h => by
    simp only [acode] at ha
    split at ha
    · rename_i i fr1 st1 h1
      have i1 := acode_wd hc n a _ _ _ _ _ h1 h
      split at ha
      · simp only [Option.some.injEq, Prod.mk.injEq] at ha; rw [← ha.2.2]; exact i1
      · simp only [Option.some.injEq, Prod.mk.injEq] at ha; rw [← ha.2.2]; exact i1
    · exact acode_wd hc n a _ _ _ _ _ ha h
  | .loop a, fr, st, e, fr', st', ha, h => by
    simp only [acode] at ha
    have key : ∀ (m : Nat) (fr : AFr) (st : St), aloop (acode P call n a) m fr st = some (e, fr', st') → WFD d st → WFD d st' := by
      intro m
      induction m with
      | zero => intro fr st hl; cases hl
      | succ m ih =>
        intro fr st hl hw
        simp only [aloop] at hl
        split at hl
        · rename_i fr1 st1 h1
          have i1 := acode_wd hc n a _ _ _ _ _ h1 hw
          exact ih fr1 st1 hl i1
        · exact acode_wd hc n a _ _ _ _ _ hl hw
    exact key n fr st ha h
  | .rangeFunc .., fr, st, e, fr', st', ha, h => by simp [acode] at ha
  | .scope _, fr, st, e, fr', st', ha, h => by simp [acode] at ha
  | .label _, fr, st, e, fr', st', ha, h => by simp [acode] at ha
  | .goto _, fr, st, e, fr', st', ha, h => by simp [acode] at ha
  | .refuse _, fr, st, e, fr', st', ha, h => by simp [acode] at ha
theorem acall_wd : ∀ k, CallWD d (acall P k)
  | 0 => by intro f xs st r st' h; cases h
  | k + 1 => by
    intro f xs st r st' h hw
    simp only [acall] at h
    split at h
    · exact orac_wd (acall_wd k) h hw
    split at h
    · unfold afunc at h
      split at h
      · split at h
        · split at h
          · rename_i h1
            obtain ⟨_, _, h3⟩ := Option.map_eq_some_iff.1 h
            simp only [Prod.mk.injEq] at h3
            rw [← h3.2]
            exact acode_wd (acall_wd k) k _ _ _ _ _ _ h1 hw
          · rename_i h1
            obtain ⟨_, _, h3⟩ := Option.map_eq_some_iff.1 h
            simp only [Prod.mk.injEq] at h3
            rw [← h3.2]
            exact acode_wd (acall_wd k) k _ _ _ _ _ _ h1 hw
          · cases h
        · cases h
      · cases h
    · cases h
theorem ACalls.dead {f : FuncId} {xs : List AV} {st : St} {Q : AV → St → Prop} (h : ACalls P f xs st Q) : ACalls P f xs st (fun r s => (∀ d, d < st.n → st.get d = none → s.get d = none) ∧ Q r s) :=
  let ⟨k, r, st', h1, h2⟩ := h
  ⟨k, r, st', h1, fun d hd hn => (acall_wd k f xs st r st' h1 ⟨hd, hn⟩).2, h2⟩
end
theorem fresh {st : St} (hw : WF st) {i : Nat} (h : st.n ≤ i) : st.get i = none := by
  cases hg : st.get i with
  | none => rfl
  | some o => have := (hw i o hg).1; omega
/-- A new object at a name that named nothing. -/
theorem Keeps.putF {G : Nat → Prop} {st s : St} (h : Keeps G st s) {i : Nat} {o : AObj} (hi : st.get i = none) : Keeps G st (s.put i o) := ⟨h.n, fun j o' ho hg => by
  have hne : j ≠ i := fun e => by rw [e, hi] at ho; cases ho
  simp only [St.put, hne, if_false]
  exact h.get j o' ho hg, h.ch⟩
end Go.Proofs.YtjpgpkkbmoehdaaDoor.Ra
