/- A name that nobody uses may stand beside: an operation, a step answer the same. -/
import Derived.Test.YtjpgpkkbmoehdaaDoorRi
namespace Go.Proofs.YtjpgpkkbmoehdaaDoor.Ra
open Go Go.RowKit
set_option linter.unusedVariables false
set_option linter.unusedSimpArgs false
/-- The name d names nothing, and no row is of its group. -/
structure Frm (d : Nat) (st : St) : Prop where
  lt : d < st.n
  dead : st.get d = none
  grp : ∀ k o, st.get k = some o → o.grp ≠ d
def FrameOK (call : ACall) : Prop := ∀ f xs st r st', call f xs st = some (r, st') → ∀ d, Frm d st → Frm d st' ∧ ∀ ob : AObj, ob.grp = d → call f xs (st.put d ob) = some (r, st'.put d ob)
section
variable {P : Program} {st : St} {d : Nat}
theorem pget (ob : AObj) {k : Nat} (h : k ≠ d) : (st.put d ob).get k = st.get k := by simp [St.put, h]
theorem Frm.ne (h : Frm d st) {k : Nat} {o : AObj} (hk : st.get k = some o) : k ≠ d := by
  rintro rfl
  rw [h.dead] at hk
  cases hk
theorem Frm.bump (h : Frm d st) (k : Nat) : Frm d (st.bump k) := ⟨by have := h.lt; simp only [St.bump]; omega, h.dead, h.grp⟩
theorem Frm.put (h : Frm d st) {i : Nat} {o : AObj} (hi : i ≠ d) (hg : o.grp ≠ d) : Frm d (st.put i o) := ⟨h.lt, by rw [pget _ (Ne.symm hi)]; exact h.dead, fun k o' hk => by
  by_cases e : k = i
  · subst e
    simp only [St.put, if_true, Option.some.injEq] at hk
    rw [← hk]; exact hg
  · rw [pget _ e] at hk
    exact h.grp k o' hk⟩
theorem Frm.touch (h : Frm d st) (g off n : Nat) : Frm d (st.touch g off n) := ⟨h.lt, by simp [St.touch, h.dead], fun k o' hk => by
  simp only [St.touch] at hk
  obtain ⟨y, hy, e⟩ := Option.map_eq_some_iff.1 hk
  have := h.grp k y hy
  rw [← e]
  split <;> exact this⟩
theorem Frm.kill (h : Frm d st) (g : Nat) : Frm d (st.kill g) := ⟨h.lt, by simp [St.kill, h.dead], fun k o' hk => by
  simp only [St.kill] at hk
  obtain ⟨y, hy, e⟩ := Option.bind_eq_some_iff.1 hk
  split at e
  · cases e
  · cases e
    exact h.grp k _ hy⟩
theorem touch_put (st : St) (ob : AObj) {g : Nat} (off n : Nat) (h : ob.grp ≠ g) : (st.put d ob).touch g off n = (st.touch g off n).put d ob := by
  simp only [St.touch, St.put, St.mk.injEq, true_and, and_true]
  funext k
  by_cases e : k = d
  · simp [e, h]
  · simp [e]
theorem kill_put (st : St) (ob : AObj) {g : Nat} (h : ob.grp ≠ g) : (st.put d ob).kill g = (st.kill g).put d ob := by
  simp only [St.kill, St.put, St.mk.injEq, true_and, and_true]
  funext k
  by_cases e : k = d
  · simp [e, h]
  · simp [e]
theorem asrc_frame (h : Frm d st) {size : Nat} {x : AV} {nm : List AV × Nat} (hs : asrc P st size x = some nm) (ob : AObj) : asrc P (st.put d ob) size x = some nm := by
  cases x with
  | sl j off m es =>
    simp only [asrc] at hs ⊢
    by_cases h0 : m = 0
    · simp only [h0, if_true] at hs ⊢
      exact hs
    · simp only [h0, if_false] at hs ⊢
      cases hg : st.get j with
      | none => rw [hg] at hs; cases hs
      | some o =>
        rw [pget _ (h.ne hg)]
        exact hs
  | pl v =>
    rw [← hs]
    cases v with
    | slice q n c => cases n <;> rfl
    | _ => rfl
  | _ => simp [asrc] at hs
theorem aappend_frame {id : Nat} (hid : id ≠ d) {t : TypeId} {s x y : AV} {s' : St} (ha : aappend P st id t s x = some (y, s')) (h : Frm d st) : Frm d s' ∧ ∀ ob : AObj, ob.grp = d → aappend P (st.put d ob) id t s x = some (y, s'.put d ob) := by
  unfold aappend at ha
  split at ha
  case h_2 => cases ha
  rename_i e hu
  split at ha
  case h_2 => cases ha
  rename_i ti hti
  split at ha
  case h_2 => cases ha
  rename_i news m hsrc
  have hs2 := fun ob => asrc_frame h hsrc ob
  split at ha
  · rename_i j off len es
    split at ha
    case h_2 => cases ha
    rename_i o ho
    split at ha
    case isFalse => cases ha
    rename_i hc
    simp only [Option.some.injEq, Prod.mk.injEq] at ha
    obtain ⟨rfl, rfl⟩ := ha
    have hj := h.ne ho
    have hg := h.grp _ _ ho
    by_cases h0 : off = 0
    · rw [if_pos h0]
      refine ⟨(h.touch _ _ _).put hid hg, fun ob hob => ?_⟩
      unfold aappend
      simp only [hu, hti, hs2, pget ob hj, ho]
      rw [if_pos hc, if_pos h0, touch_put _ _ _ _ (by rw [hob]; exact Ne.symm hg), put_comm_st _ _ _ (Ne.symm hid)]
    · rw [if_neg h0]
      refine ⟨(h.kill _).put hid hid, fun ob hob => ?_⟩
      unfold aappend
      simp only [hu, hti, hs2, pget ob hj, ho]
      rw [if_pos hc, if_neg h0, kill_put _ _ (by rw [hob]; exact Ne.symm hg), put_comm_st _ _ _ (Ne.symm hid)]
  · by_cases h0 : m = 0
    · rw [if_pos h0] at ha
      simp only [Option.some.injEq, Prod.mk.injEq] at ha
      obtain ⟨rfl, rfl⟩ := ha
      refine ⟨h, fun ob hob => ?_⟩
      unfold aappend
      simp only [hu, hti, hs2]
      rw [if_pos h0]
    · rw [if_neg h0] at ha
      split at ha
      case isFalse => cases ha
      rename_i hc
      simp only [Option.some.injEq, Prod.mk.injEq] at ha
      obtain ⟨rfl, rfl⟩ := ha
      refine ⟨h.put hid hid, fun ob hob => ?_⟩
      unfold aappend
      simp only [hu, hti, hs2]
      rw [if_neg h0, if_pos hc, put_comm_st _ _ _ (Ne.symm hid)]
  · cases ha
theorem astore_frame {t : TypeId} {v x : AV} {s : St} (ha : astore P st t v x = some s) (h : Frm d st) : Frm d s ∧ ∀ ob : AObj, ob.grp = d → astore P (st.put d ob) t v x = some (s.put d ob) := by
  unfold astore at ha
  split at ha
  case h_2 => cases ha
  rename_i i off
  split at ha
  case h_2 => cases ha
  rename_i o ho
  split at ha
  case h_2 => cases ha
  rename_i sz hsz
  split at ha
  case isFalse => cases ha
  rename_i hc
  simp only [Option.some.injEq] at ha
  subst ha
  have hi := h.ne ho
  have hg := h.grp _ _ ho
  refine ⟨(h.touch _ _ _).put hi hg, fun ob hob => ?_⟩
  unfold astore
  simp only [pget ob hi, ho, hsz]
  rw [if_pos hc, touch_put _ _ _ _ (by rw [hob]; exact Ne.symm hg), put_comm_st _ _ _ (Ne.symm hi)]
theorem aload_frame {t : TypeId} {x v : AV} (ha : aload P st t x = some v) (h : Frm d st) (ob : AObj) : aload P (st.put d ob) t x = some v := by
  unfold aload at ha ⊢
  split at ha
  · rename_i i off
    cases hg : st.get i with
    | none => rw [hg] at ha; cases ha
    | some o => simp only [pget ob (h.ne hg)]; exact ha
  · rename_i i off
    split at ha
    case isFalse => cases ha
    rename_i hi
    simp only [hi, if_true]
    cases hg : st.get i with
    | none => rw [hg] at ha; cases ha
    | some o => simp only [pget ob (h.ne hg)]; exact ha
  · cases ha
theorem aconvert_frame {id : Nat} (hid : id ≠ d) {src dt : TypeId} {x y : AV} {s : St} (ha : aconvert P st id src dt x = some (y, s)) (h : Frm d st) : Frm d s ∧ ∀ ob : AObj, ob.grp = d → aconvert P (st.put d ob) id src dt x = some (y, s.put d ob) := by
  unfold aconvert at ha
  split at ha
  · rename_i dd k k2 n hs hd
    simp only [Option.some.injEq, Prod.mk.injEq] at ha
    obtain ⟨rfl, rfl⟩ := ha
    exact ⟨h, fun ob _ => by simp only [aconvert, hs, hd]⟩
  · rename_i e str hs hd
    split at ha
    case h_2 => cases ha
    rename_i hE hsz
    split at ha
    case isFalse => cases ha
    rename_i hm
    simp only [Option.some.injEq, Prod.mk.injEq] at ha
    obtain ⟨rfl, rfl⟩ := ha
    refine ⟨h.put hid hid, fun ob _ => ?_⟩
    simp only [aconvert, hs, hd, hE, hsz, hm, if_true]
    rw [put_comm_st _ _ _ (Ne.symm hid)]
  · rename_i e i off len es hs hd
    split at ha
    case h_2 => cases ha
    rename_i o hE hob
    split at ha
    case isFalse => cases ha
    rename_i hl
    obtain ⟨ns, hns, hyy⟩ := Option.map_eq_some_iff.1 ha
    simp only [Prod.mk.injEq] at hyy
    obtain ⟨rfl, rfl⟩ := hyy
    refine ⟨h, fun ob _ => ?_⟩
    by_cases hz : len = 0
    · rw [if_pos hz] at hob
      simp only [aconvert, hs, hd, hE, if_pos hz, hob, hl, if_true, hns, Option.map_some]
    · rw [if_neg hz] at hob
      simp only [aconvert, hs, hd, hE, if_neg hz, pget ob (h.ne hob), hob, hl, if_true, hns, Option.map_some]
  · rename_i e hs hd
    split at ha
    case h_2 => cases ha
    rename_i hE
    simp only [Option.some.injEq, Prod.mk.injEq] at ha
    obtain ⟨rfl, rfl⟩ := ha
    exact ⟨h, fun ob _ => by simp only [aconvert, hs, hd, hE]⟩
  · rename_i e0 e hs hd
    split at ha
    case isFalse => cases ha
    rename_i hsd
    unfold amark at ha
    split at ha
    case h_2 => cases ha
    rename_i i off len es
    split at ha
    case h_2 => cases ha
    rename_i o hE ho
    split at ha
    case isFalse => cases ha
    rename_i how
    simp only [Option.some.injEq, Prod.mk.injEq] at ha
    obtain ⟨rfl, rfl⟩ := ha
    have hg := h.grp _ _ ho
    refine ⟨(h.kill _).put hid hid, fun ob hob => ?_⟩
    simp only [aconvert, hs, hd, hsd, if_true, amark, hE, pget ob (h.ne ho), ho, how]
    rw [kill_put _ _ (by rw [hob]; exact Ne.symm hg), put_comm_st _ _ _ (Ne.symm hid)]
  · cases ha
theorem made_grp0 {t : TypeId} {id len : Nat} {ps : List (Nat × AV)} {r : AV × AObj} (h : abuildSlice P t id len ps = some r) : r.2.grp = id := by
  unfold abuildSlice at h
  repeat' split at h
  all_goals first
    | (cases h; done)
    | (obtain ⟨cs, _, rfl⟩ := Option.map_eq_some_iff.1 h; rfl)
theorem makeSlice_grp0 {t : TypeId} {id : Nat} {l c : AV} {r : AV × AObj} (h : amakeSlice P t id l c = some r) : r.2.grp = id := by
  unfold amakeSlice at h
  repeat' split at h
  all_goals first
    | (cases h; done)
    | (simp only [Option.some.injEq] at h; rw [← h])
/-- One operation. -/
theorem aop_frame {call : ACall} (hc : FrameOK call) {id : Nat} (hid : id ≠ d) {o : Oper} {fr : AFr} {s : St} {y : AV} (ha : aop P call id o fr st = some (y, s)) (h : Frm d st) : Frm d s ∧ ∀ ob : AObj, ob.grp = d → aop P call id o fr (st.put d ob) = some (y, s.put d ob) := by
  have quiet : ∀ (z : Option AV), (∀ s, aop P call id o fr s = z.map fun v => (v, s)) → Frm d s ∧ ∀ ob : AObj, ob.grp = d → aop P call id o fr (st.put d ob) = some (y, s.put d ob) := by
    intro z hz
    rw [hz] at ha
    obtain ⟨v, rfl, hv⟩ := Option.map_eq_some_iff.1 ha
    simp only [Prod.mk.injEq] at hv
    obtain ⟨rfl, rfl⟩ := hv
    exact ⟨h, fun ob _ => by rw [hz]; rfl⟩
  have made : ∀ (z : Option (AV × AObj)), (∀ s, aop P call id o fr s = z.map fun v => (v.1, s.put id v.2)) → (∀ v, z = some v → v.2.grp = id) → Frm d s ∧ ∀ ob : AObj, ob.grp = d → aop P call id o fr (st.put d ob) = some (y, s.put d ob) := by
    intro z hz hg
    rw [hz] at ha
    obtain ⟨v, rfl, hv⟩ := Option.map_eq_some_iff.1 ha
    simp only [Prod.mk.injEq] at hv
    obtain ⟨rfl, rfl⟩ := hv
    refine ⟨h.put hid (by rw [hg v rfl]; exact hid), fun ob _ => ?_⟩
    rw [hz, Option.map_some, put_comm_st _ _ _ (Ne.symm hid)]
  obtain ⟨dst, op, type, pos, after, guard⟩ := o
  cases op with
  | move x => exact quiet (some (aeval fr x)) fun s => rfl
  | assign x => exact quiet (some (aeval fr x)) fun s => rfl
  | pick c a b =>
    refine quiet (match aeval fr c with | .pl (.bool t) => some (if t then aeval fr a else aeval fr b) | _ => none) fun s => ?_
    simp only [aop]
    repeat' split
    all_goals first | rfl | (simp only [Option.map_map]; rfl) | (simp_all; done) | (simp_all [Function.comp_def]; done) | (simp_all; rfl)
  | nilCheck x =>
    refine quiet (match aeval fr x with | .ptr i off => some (.ptr i off) | .fn f cs => some (.fn f cs) | _ => none) fun s => ?_
    simp only [aop]
    repeat' split
    all_goals first | rfl | (simp only [Option.map_map]; rfl) | (simp_all; done) | (simp_all [Function.comp_def]; done) | (simp_all; rfl)
  | binOp b t x z ty => exact quiet ((abin P b t (aeval fr x) (aeval fr z)).map .pl) fun s => by simp only [aop, Option.map_map]; rfl
  | unOp b t x => exact quiet ((aun b (aeval fr x)).map .pl) fun s => by simp only [aop, Option.map_map]; rfl
  | slice t x lo hi mx =>
    refine quiet (if mx.isNone then aslice P t (aeval fr x) (lo.map (aeval fr)) (hi.map (aeval fr)) else none) fun s => ?_
    simp only [aop]
    repeat' split
    all_goals first | rfl | (simp only [Option.map_map]; rfl) | (simp_all; done) | (simp_all [Function.comp_def]; done) | (simp_all; rfl)
  | fieldAddr t x f => exact quiet (afieldAddr P t (aeval fr x) f) fun s => rfl
  | indexAddr t x ix => exact quiet (aindexAddr P t (aeval fr x) (aeval fr ix)) fun s => rfl
  | field t x f =>
    refine quiet (match P.underlying t, aeval fr x with
      | some (.struct fs), .agg xs => match fs[f]? with
        | some fd => apart_ P fd.type xs fd.offset
        | none => none
      | _, _ => none) fun s => ?_
    simp only [aop]
    repeat' split
    all_goals first | rfl | (simp only [Option.map_map]; rfl) | (simp_all; done) | (simp_all [Function.comp_def]; done) | (simp_all; rfl)
  | index t x ix => exact quiet (aindex P t (aeval fr x) (aeval fr ix)) fun s => rfl
  | extract x ix =>
    refine quiet (match aeval fr x with | .tup xs => xs[ix]? | _ => none) fun s => ?_
    simp only [aop]
    repeat' split
    all_goals first | rfl | (simp only [Option.map_map]; rfl) | (simp_all; done) | (simp_all [Function.comp_def]; done) | (simp_all; rfl)
  | build t ps => exact quiet (abuild P t (ps.toList.map fun p => (p.1, aeval fr p.2))) fun s => rfl
  | makeFunc fn first captured =>
    cases fn with
    | func f =>
      refine quiet (if first.isEmpty then some (.fn f (captured.toList.map (aeval fr))) else none) fun s => ?_
      simp only [aop]
      repeat' split
      all_goals first | rfl | (simp only [Option.map_map]; rfl) | (simp_all; done) | (simp_all [Function.comp_def]; done) | (simp_all; rfl)
    | _ => simp [aop] at ha
  | alloc e =>
    refine made (match zcells P e, szOf P e with | some cs, some s => some (.ptr id 0, ⟨cs, e, true, id⟩) | _, _ => none) (fun s => ?_) fun v hv => ?_
    · simp only [aop]
      repeat' split
      all_goals first | rfl | (simp only [Option.map_map]; rfl) | (simp_all; done) | (simp_all [Function.comp_def]; done) | (simp_all; rfl)
    · split at hv
      · cases hv; rfl
      · cases hv
  | box e x =>
    refine made (match szOf P e with | some s => if (aeval fr x).solid then some (.ptr id 0, ⟨(aeval fr x).cells, e, true, id⟩) else none | none => none) (fun s => ?_) fun v hv => ?_
    · simp only [aop]
      repeat' split
      all_goals first | rfl | (simp only [Option.map_map]; rfl) | (simp_all; done) | (simp_all [Function.comp_def]; done) | (simp_all; rfl)
    · split at hv
      · split at hv
        · cases hv; rfl
        · cases hv
      · cases hv
  | buildSlice t len ps => exact made (abuildSlice P t id len (ps.toList.map fun p => (p.1, aeval fr p.2))) (fun s => rfl) fun v hv => made_grp0 hv
  | makeSlice t l c => exact made (amakeSlice P t id (aeval fr l) (aeval fr c)) (fun s => rfl) fun v hv => makeSlice_grp0 hv
  | load t x =>
    simp only [aop] at ha ⊢
    obtain ⟨v, hv, hyy⟩ := Option.map_eq_some_iff.1 ha
    simp only [Prod.mk.injEq] at hyy
    obtain ⟨rfl, rfl⟩ := hyy
    exact ⟨h, fun ob _ => by rw [aload_frame hv h ob]; rfl⟩
  | store t x v =>
    simp only [aop] at ha ⊢
    obtain ⟨v, hv, hyy⟩ := Option.map_eq_some_iff.1 ha
    simp only [Prod.mk.injEq] at hyy
    obtain ⟨rfl, rfl⟩ := hyy
    obtain ⟨h1, h2⟩ := astore_frame hv h
    exact ⟨h1, fun ob hob => by rw [h2 ob hob]; rfl⟩
  | convert src dt x =>
    simp only [aop] at ha ⊢
    exact aconvert_frame hid ha h
  | call c =>
    obtain ⟨callee, args, ats⟩ := c
    cases callee with
    | builtin b =>
      cases b with
      | len => exact quiet (alen P ats (args.toList.map (aeval fr))) fun s => rfl
      | max => exact quiet (amax (args.toList.map (aeval fr))) fun s => rfl
      | min => exact quiet (amin (args.toList.map (aeval fr))) fun s => rfl
      | append =>
        simp only [aop, abuiltin] at ha ⊢
        split at ha
        case h_2 => cases ha
        rename_i s0 x0 hx0
        split at ha
        case isFalse => cases ha
        rename_i hats
        obtain ⟨h1, h2⟩ := aappend_frame hid ha h
        refine ⟨h1, fun ob hob => ?_⟩
        rw [if_pos hats]
        exact h2 ob hob
      | _ => simp [aop, abuiltin] at ha
    | value f =>
      simp only [aop] at ha ⊢
      split at ha
      case h_2 => cases ha
      rename_i g caps hg
      obtain ⟨h1, h2⟩ := hc _ _ _ _ _ ha d h
      exact ⟨h1, fun ob hob => h2 ob hob⟩
    | invoke r m => simp [aop] at ha
  | _ => simp [aop] at ha
theorem Steady.put {st s : St} (h : Steady st s) (ob : AObj) : Steady (st.put d ob) (s.put d ob) := ⟨h.n, fun k hk => by
  by_cases e : k = d
  · subst e; simp [St.put]
  · rw [pget _ e, pget _ e]; exact h.old k hk, fun k o hk => by
  by_cases e : k = d
  · subst e; simpa [St.put] using hk
  · rw [pget _ e] at hk ⊢; exact h.get k o hk⟩
theorem astep_frame {call : ACall} (hc : FrameOK call) {sd : Bool} {ops : Array Oper} {n0 i : Nat} (hid : n0 + i ≠ d) {fr fr1 : AFr} {st1 : St} (ha : astep P call sd ops n0 i fr st = some (fr1, st1)) (h : Frm d st) : Frm d st1 ∧ ∀ ob : AObj, ob.grp = d → astep P call sd ops n0 i fr (st.put d ob) = some (fr1, st1.put d ob) := by
  cases ho : ops[i]? with
  | none => unfold astep at ha; simp only [ho] at ha; cases ha
  | some o =>
    by_cases cw : awanted ops fr o = true
    · obtain ⟨y, h1, h2, h3⟩ := (wanted_step ho cw).1 ha
      obtain ⟨k1, k2⟩ := aop_frame hc hid h1 h
      exact ⟨k1, fun ob hob => (wanted_step ho cw).2 ⟨y, k2 ob hob, ⟨h2.1, fun a b c => (h2.2 a b c).put ob⟩, h3⟩⟩
    · rw [unwanted_step ho cw] at ha
      simp only [Option.some.injEq, Prod.mk.injEq] at ha
      obtain ⟨rfl, rfl⟩ := ha
      exact ⟨h, fun ob _ => unwanted_step ho cw⟩
theorem arun_frame {call : ACall} (hc : FrameOK call) {sd : Bool} {ops : Array Oper} {n0 : Nat} : ∀ (l : List Nat) (fr : AFr) (st : St) (r : AFr × St), arun P call sd ops n0 l fr st = some r → Frm d st → (∀ i ∈ l, n0 + i ≠ d) → Frm d r.2 ∧ ∀ ob : AObj, ob.grp = d → arun P call sd ops n0 l fr (st.put d ob) = some (r.1, r.2.put d ob)
  | [], fr, st, r, ha, h, _ => by
    simp only [arun, Option.some.injEq] at ha
    subst ha
    exact ⟨h, fun ob _ => rfl⟩
  | i :: l, fr, st, r, ha, h, hn => by
    simp only [arun] at ha
    obtain ⟨⟨fr1, st1⟩, h1, h2⟩ := Option.bind_eq_some_iff.1 ha
    obtain ⟨k1, k2⟩ := astep_frame hc (hn i (by simp)) h1 h
    obtain ⟨m1, m2⟩ := arun_frame hc l fr1 st1 r h2 k1 (fun j hj => hn j (by simp [hj]))
    refine ⟨m1, fun ob hob => ?_⟩
    simp only [arun, k2 ob hob, Option.bind_some]
    exact m2 ob hob
/-- An operation that makes what is new, whatever stands in the store. -/
theorem aop_new {call : ACall} {id : Nat} {o : Oper} {fr : AFr} {s : St} {y : AV} (hn : newOnly P o.op = true) (ha : aop P call id o fr st = some (y, s)) : ∃ ob : AObj, ob.grp = id ∧ s = st.put id ob ∧ ∀ st2, aop P call id o fr st2 = some (y, st2.put id ob) := by
  obtain ⟨dst, op, type, pos, after, guard⟩ := o
  cases op with
  | alloc e =>
    simp only [aop] at ha ⊢
    split at ha
    case h_2 => cases ha
    rename_i h1 h2
    simp only [Option.some.injEq, Prod.mk.injEq] at ha
    obtain ⟨rfl, rfl⟩ := ha
    exact ⟨_, rfl, rfl, fun st2 => by simp only [h1, h2]⟩
  | buildSlice t len ps =>
    simp only [aop] at ha ⊢
    obtain ⟨v, hv, hyy⟩ := Option.map_eq_some_iff.1 ha
    simp only [Prod.mk.injEq] at hyy
    obtain ⟨rfl, rfl⟩ := hyy
    exact ⟨v.2, made_grp0 hv, rfl, fun st2 => by rw [hv]; rfl⟩
  | makeSlice t l c =>
    simp only [aop] at ha ⊢
    obtain ⟨v, hv, hyy⟩ := Option.map_eq_some_iff.1 ha
    simp only [Prod.mk.injEq] at hyy
    obtain ⟨rfl, rfl⟩ := hyy
    exact ⟨v.2, makeSlice_grp0 hv, rfl, fun st2 => by rw [hv]; rfl⟩
  | convert src dt x =>
    simp only [aop] at ha ⊢
    simp only [newOnly] at hn
    split at hn
    case h_2 => cases hn
    rename_i e hs hd
    unfold aconvert at ha
    simp only [hs, hd] at ha
    split at ha
    · rename_i s0 hs2 hd2 hx
      simp at hd2
    · rename_i e2 str hs2 hd2 hx
      simp only [Option.some.injEq, TypeDesc.slice.injEq] at hd2
      subst hd2
      split at ha
      case h_2 => cases ha
      rename_i hE hsz
      split at ha
      case isFalse => cases ha
      rename_i hm
      simp only [Option.some.injEq, Prod.mk.injEq] at ha
      obtain ⟨rfl, rfl⟩ := ha
      exact ⟨_, rfl, rfl, fun st2 => by simp only [aconvert, hs, hd, hx, hE, hsz, hm, if_true]⟩
    all_goals (first | (simp at *; done) | (rename_i hq1 hq2; simp at hq1 hq2; done) | cases ha)
  | _ => simp [newOnly] at hn
end
end Go.Proofs.YtjpgpkkbmoehdaaDoor.Ra
