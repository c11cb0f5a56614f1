/- Code, calls, and a call from the outside: what the machine of names answers, the machine answers. -/
import Derived.Test.YtjpgpkkbmoehdaaDoorRx
namespace Go.Proofs.YtjpgpkkbmoehdaaDoor.Ra
open Go Go.RowKit
set_option linter.unusedVariables false
set_option linter.unusedSimpArgs false

def aloop (body : AFr → St → Option (AExit × AFr × St)) : Nat → AFr → St → Option (AExit × AFr × St)
  | 0, _, _ => none
  | n + 1, fr, st => match body fr st with
    | some (.normal, fr', st') => aloop body n fr' st'
    | r => r
noncomputable def acode (P : Program) (call : ACall) (n : Nat) : Code → AFr → St → Option (AExit × AFr × St)
  | .skip, fr, st => some (.normal, fr, st)
  | .region _ ops draw, fr, st => (aregion P call ops draw fr st).map fun r => (.normal, r.1, r.2)
  | .seq a b, fr, st => match acode P call n a fr st with
    | some (.normal, fr', st') => acode P call n b fr' st'
    | r => r
  | .cond c a b, fr, st => match aeval fr c with
    | .pl (.bool t) => if t then acode P call n a fr st else acode P call n b fr st
    | _ => none
  | .block id c, fr, st => match acode P call n c fr st with
    | some (.exit i, fr', st') => if i = id then some (.normal, fr', st') else some (.exit i, fr', st')
    | r => r
  | .loop c, fr, st => aloop (acode P call n c) n fr st
  | .exit id, fr, st => some (.exit id, fr, st)
  | .ret, fr, st => some (.ret, fr, st)
  | _, _, _ => none
def aresult (P : Program) (st : St) (fr : AFr) : ResultVar → Option AV
  | .tmp t => some (fr t)
  | .cell p q => aload P st q (fr p)
def aresults (P : Program) (st : St) (fn : Func) (fr : AFr) : Option AV := (fn.results.toList.mapM (aresult P st fr)).map fun
  | [x] => x
  | xs => .tup xs
noncomputable def afunc (P : Program) (call : ACall) (n : Nat) (fn : Func) (xs : List AV) (st : St) : Option (AV × St) :=
  match fn.body with
  | some c => if codeOK fn.ntmps c && fn.name != "runtime.NumGoroutine" && xs.all AV.solid then
      match acode P call n c (fun t => xs.getD t (.pl undef)) st with
      | some (.normal, fr, st') => (aresults P st' fn fr).map fun r => (r, st')
      | some (.ret, fr, st') => (aresults P st' fn fr).map fun r => (r, st')
      | _ => none
    else none
  | none => none
noncomputable def acall (P : Program) : Nat → ACall
  | 0, _, _, _ => none
  | k + 1, f, xs, st => if isOrac f = true then orac P (acall P k) f xs st else match P.funcs[f]? with
    | some fn => afunc P (acall P k) k fn xs st
    | none => none
/- A name that nobody uses may stand beside a call. -/
section
variable {P : Program} {call : ACall} {d : Nat}
theorem aregion_frame (hc : FrameOK call) {ops : Array Oper} {draw : Bool} {fr : AFr} {st : St} {r : AFr × St} (h : aregion P call ops draw fr st = some r) (hd : Frm d st) : Frm d r.2 ∧ ∀ ob : AObj, ob.grp = d → aregion P call ops draw fr (st.put d ob) = some (r.1, r.2.put d ob) := by
  unfold aregion at h
  split at h
  · cases h
  rename_i hr
  have hlt := hd.lt
  obtain ⟨h1, h2⟩ := arun_frame hc _ _ _ _ h (hd.bump _) (fun i _ => by omega)
  refine ⟨h1, fun ob hob => ?_⟩
  unfold aregion
  rw [if_neg]
  · exact h2 ob hob
  · intro hn
    refine hr fun hx => hn fun hdr => ?_
    rcases hx hdr with hy | ⟨hy, hg⟩
    · exact .inl hy
    · refine .inr ⟨hy, fun i o hi => ?_⟩
      by_cases e : i = d
      · subst e
        simp only [St.put, if_true, Option.some.injEq] at hi
        rw [← hi, hob]
        exact ⟨hlt, hlt⟩
      · rw [pget _ e] at hi
        exact hg i o hi
theorem acode_frame (hc : FrameOK call) (n : Nat) : ∀ (x : Code) (fr : AFr) (st : St) (e : AExit) (fr' : AFr) (st' : St), acode P call n x fr st = some (e, fr', st') → Frm d st → Frm d st' ∧ ∀ ob : AObj, ob.grp = d → acode P call n x fr (st.put d ob) = some (e, fr', st'.put d ob)
  | .skip, fr, st, e, fr', st', ha, h => by
    simp only [acode, Option.some.injEq, Prod.mk.injEq] at ha ⊢
    obtain ⟨rfl, rfl, rfl⟩ := ha
    exact ⟨h, fun ob _ => ⟨rfl, rfl, rfl⟩⟩
  | .exit _, fr, st, e, fr', st', ha, h => by
    simp only [acode, Option.some.injEq, Prod.mk.injEq] at ha ⊢
    obtain ⟨rfl, rfl, rfl⟩ := ha
    exact ⟨h, fun ob _ => ⟨rfl, rfl, rfl⟩⟩
  | .ret, fr, st, e, fr', st', ha, h => by
    simp only [acode, Option.some.injEq, Prod.mk.injEq] at ha ⊢
    obtain ⟨rfl, rfl, rfl⟩ := ha
    exact ⟨h, fun ob _ => ⟨rfl, rfl, rfl⟩⟩
  | .region _ ops draw, fr, st, e, fr', st', ha, h => by
    simp only [acode] at ha ⊢
    obtain ⟨⟨fr1, st1⟩, h1, h2⟩ := Option.map_eq_some_iff.1 ha
    simp only [Prod.mk.injEq] at h2
    obtain ⟨rfl, rfl, rfl⟩ := h2
    obtain ⟨k1, k2⟩ := aregion_frame hc h1 h
    exact ⟨k1, fun ob hob => by rw [k2 ob hob]; rfl⟩
  | .seq a b, fr, st, e, fr', st', ha, h => by
    simp only [acode] at ha ⊢
    split at ha
    · rename_i fr1 st1 h1
      obtain ⟨k1, k2⟩ := acode_frame hc n a _ _ _ _ _ h1 h
      obtain ⟨m1, m2⟩ := acode_frame hc n b _ _ _ _ _ ha k1
      exact ⟨m1, fun ob hob => by rw [k2 ob hob]; exact m2 ob hob⟩
    · rename_i hne
      obtain ⟨k1, k2⟩ := acode_frame hc n a _ _ _ _ _ ha h
      refine ⟨k1, fun ob hob => ?_⟩
      rw [k2 ob hob]
      cases e with
      | normal => exact absurd ha (hne fr' st')
      | _ => rfl
  | .cond q a b, fr, st, e, fr', st', ha, h => by
    simp only [acode] at ha ⊢
    split at ha
    case h_2 => cases ha
    rename_i t ht
    cases t with
    | true =>
      simp only [if_true] at ha ⊢
      exact acode_frame hc n a _ _ _ _ _ ha h
    | false =>
      simp only [Bool.false_eq_true, if_false] at ha ⊢
      exact acode_frame hc n b _ _ _ _ _ ha h
  | .block id a, fr, st, e, fr', st', ha, h => by
    simp only [acode] at ha ⊢
    split at ha
    · rename_i i fr1 st1 h1
      obtain ⟨k1, k2⟩ := acode_frame hc n a _ _ _ _ _ h1 h
      by_cases hi : i = id
      · rw [if_pos hi] at ha
        simp only [Option.some.injEq, Prod.mk.injEq] at ha
        obtain ⟨rfl, rfl, rfl⟩ := ha
        exact ⟨k1, fun ob hob => by rw [k2 ob hob]; simp only; rw [if_pos hi]⟩
      · rw [if_neg hi] at ha
        simp only [Option.some.injEq, Prod.mk.injEq] at ha
        obtain ⟨rfl, rfl, rfl⟩ := ha
        exact ⟨k1, fun ob hob => by rw [k2 ob hob]; simp only; rw [if_neg hi]⟩
    · rename_i hne
      obtain ⟨k1, k2⟩ := acode_frame hc n a _ _ _ _ _ ha h
      refine ⟨k1, fun ob hob => ?_⟩
      rw [k2 ob hob]
      cases e with
      | exit i => exact absurd ha (hne i fr' st')
      | _ => rfl
  | .loop a, fr, st, e, fr', st', ha, h => by
    simp only [acode] at ha ⊢
    have ih := acode_frame hc n a
    have key : ∀ (m : Nat) (fr : AFr) (st : St), aloop (acode P call n a) m fr st = some (e, fr', st') → Frm d st → Frm d st' ∧ ∀ ob : AObj, ob.grp = d → aloop (acode P call n a) m fr (st.put d ob) = some (e, fr', st'.put d ob) := by
      intro m
      induction m with
      | zero => intro fr st hl; cases hl
      | succ m im =>
        intro fr st hl hf
        simp only [aloop] at hl ⊢
        split at hl
        · rename_i fr1 st1 h1
          obtain ⟨k1, k2⟩ := ih _ _ _ _ _ h1 hf
          obtain ⟨m1, m2⟩ := im fr1 st1 hl k1
          exact ⟨m1, fun ob hob => by rw [k2 ob hob]; exact m2 ob hob⟩
        · rename_i r hne
          obtain ⟨k1, k2⟩ := ih _ _ _ _ _ hl hf
          refine ⟨k1, fun ob hob => ?_⟩
          rw [k2 ob hob]
          cases e with
          | normal => exact absurd hl (hne fr' st')
          | _ => rfl
    exact key n fr st ha h
  | .rangeFunc .., fr, st, e, fr', st', ha, h => by simp [acode] at ha
  | .scope _, fr, st, e, fr', st', ha, h => by simp [acode] at ha
  | .label _, fr, st, e, fr', st', ha, h => by simp [acode] at ha
  | .goto _, fr, st, e, fr', st', ha, h => by simp [acode] at ha
  | .refuse _, fr, st, e, fr', st', ha, h => by simp [acode] at ha
theorem aresults_frame {fn : Func} {fr : AFr} {r : AV} {st : St} (ha : aresults P st fn fr = some r) (h : Frm d st) (ob : AObj) : aresults P (st.put d ob) fn fr = some r := by
  unfold aresults at ha ⊢
  obtain ⟨xs, hxs, rfl⟩ := Option.map_eq_some_iff.1 ha
  have key : ∀ (l : List ResultVar) (ys : List AV), l.mapM (aresult P st fr) = some ys → l.mapM (aresult P (st.put d ob) fr) = some ys := by
    intro l
    induction l with
    | nil => intro ys hy; exact hy
    | cons x l ih =>
      intro ys hy
      rw [List.mapM_cons] at hy ⊢
      simp only [Option.bind_eq_bind, Option.pure_def, Option.bind_eq_some_iff, Option.some.injEq] at hy ⊢
      obtain ⟨y, h1, ys', h2, rfl⟩ := hy
      refine ⟨y, ?_, ys', ih _ h2, rfl⟩
      cases x with
      | tmp t => exact h1
      | cell p q => exact aload_frame h1 h ob
  rw [key _ _ hxs]
  rfl
theorem acall_frame (P : Program) : ∀ k, FrameOK (acall P k)
  | 0 => by intro f xs st r st' h; cases h
  | k + 1 => by
    intro f xs st r st' h d hd
    simp only [acall] at h ⊢
    split at h
    case isTrue =>
      rename_i hf
      simp only [hf, if_true]
      exact orac_frame (acall_frame P k) h hd
    rename_i hf
    simp only [hf, if_false]
    split at h
    case h_2 => cases h
    rename_i fn hfn
    try simp only [hfn]
    unfold afunc at h ⊢
    split at h
    case h_2 => cases h
    rename_i c hbody
    split at h
    case isFalse => cases h
    rename_i hok
    try simp only [hbody]
    try simp only [hok, if_true]
    split at h
    · rename_i fr1 st1 h1
      obtain ⟨r1, hr1, hyy⟩ := Option.map_eq_some_iff.1 h
      simp only [Prod.mk.injEq] at hyy
      obtain ⟨rfl, rfl⟩ := hyy
      obtain ⟨k1, k2⟩ := acode_frame (acall_frame P k) k c _ _ _ _ _ h1 hd
      exact ⟨k1, fun ob hob => by rw [k2 ob hob]; simp only; rw [aresults_frame hr1 k1 ob]; rfl⟩
    · rename_i fr1 st1 h1
      obtain ⟨r1, hr1, hyy⟩ := Option.map_eq_some_iff.1 h
      simp only [Prod.mk.injEq] at hyy
      obtain ⟨rfl, rfl⟩ := hyy
      obtain ⟨k1, k2⟩ := acode_frame (acall_frame P k) k c _ _ _ _ _ h1 hd
      exact ⟨k1, fun ob hob => by rw [k2 ob hob]; simp only; rw [aresults_frame hr1 k1 ob]; rfl⟩
    · cases h
end
section
variable {P : Program} {w0 : World} {call : ACall}
/-- What is told behind some code. -/
def Post (P : Program) (w0 : World) (σ : Ren) (n0 size : Nat) (e : AExit) (fr' : AFr) (st' : St) (e' : Exit) (a' : Act) (w' : World) : Prop :=
  ∃ σ', e.is e' ∧ Sub σ σ' ∧ (∀ i, i < n0 → σ i = none → σ' i = none) ∧ Sim P w0 σ' st' w' ∧ FR σ' fr' a' ∧ a'.defers = [] ∧ a'.tmps.size = size
theorem Post.then_ {σ σ1 : Ren} {n0 n1 size : Nat} {e : AExit} {fr' : AFr} {st' : St} {e' : Exit} {a' : Act} {w' : World} (hs : Sub σ σ1) (ho : ∀ i, i < n0 → σ i = none → σ1 i = none) (hn : n0 ≤ n1) (h : Post P w0 σ1 n1 size e fr' st' e' a' w') : Post P w0 σ n0 size e fr' st' e' a' w' := by
  obtain ⟨σ', h1, h2, h3, h4⟩ := h
  exact ⟨σ', h1, hs.trans h2, fun i hi h0 => h3 i (by omega) (ho i hi h0), h4⟩
theorem arun_n (hc : CallOK P w0 call) {sd : Bool} {ops : Array Oper} {n0 : Nat} : ∀ (todo : List Nat) (fr : AFr) (st : St) (res : AFr × St), arun P call sd ops n0 todo fr st = some res → st.n ≤ res.2.n
  | [], fr, st, res, h => by simp only [arun, Option.some.injEq] at h; rw [← h]; exact Nat.le_refl _
  | i :: is, fr, st, res, h => by
    simp only [arun] at h
    obtain ⟨⟨fr1, st1⟩, h1, h2⟩ := Option.bind_eq_some_iff.1 h
    have h3 := arun_n hc is fr1 st1 res h2
    refine Nat.le_trans ?_ h3
    cases ho : ops[i]? with
    | none => unfold astep at h1; simp only [ho] at h1; cases h1
    | some o =>
      by_cases cw : awanted ops fr o = true
      · obtain ⟨y, h4, _, _⟩ := (wanted_step ho cw).1 h1
        by_cases hcall : ∃ c f, o.op = .call c ∧ c.callee = .value f
        · obtain ⟨c, f, hop, hf⟩ := hcall
          unfold aop at h4
          simp only [hop, hf] at h4
          split at h4
          case h_2 => cases h4
          exact (hc _ _ _ _ _ h4).2.1
        · by_cases he : eff P o.op ≤ 2
          · obtain ⟨f, hf, hf2, _⟩ := aop_light he h4
            rw [hf2]
            rcases hf with hf | ⟨_, ob, hf⟩ <;> rw [hf] <;> exact Nat.le_refl _
          · unfold aop at h4
            split at h4 <;> (try (cases h4; done)) <;> (try (rename_i hop; rw [hop] at he; simp [eff] at he; done))
            · rename_i hop
              obtain ⟨st2, hst, hyy⟩ := Option.map_eq_some_iff.1 h4
              simp only [Prod.mk.injEq] at hyy
              obtain ⟨_, rfl⟩ := hyy
              unfold astore at hst
              repeat' split at hst
              all_goals first
                | (cases hst; done)
                | (simp only [Option.some.injEq] at hst; rw [← hst]; exact Nat.le_refl _)
            · unfold aconvert amark at h4
              repeat' split at h4
              all_goals first
                | (cases h4; done)
                | (simp only [Option.some.injEq, Prod.mk.injEq] at h4; rw [← h4.2]; exact Nat.le_refl _)
                | (obtain ⟨v, _, hyy⟩ := Option.map_eq_some_iff.1 h4; simp only [Prod.mk.injEq] at hyy; rw [← hyy.2]; exact Nat.le_refl _)
            · rename_i c hop
              split at h4
              · rename_i b hb
                unfold abuiltin at h4
                split at h4
                · obtain ⟨v, _, hyy⟩ := Option.map_eq_some_iff.1 h4
                  simp only [Prod.mk.injEq] at hyy
                  rw [← hyy.2]; exact Nat.le_refl _
                · obtain ⟨v, _, hyy⟩ := Option.map_eq_some_iff.1 h4
                  simp only [Prod.mk.injEq] at hyy
                  rw [← hyy.2]; exact Nat.le_refl _
                · obtain ⟨v, _, hyy⟩ := Option.map_eq_some_iff.1 h4
                  simp only [Prod.mk.injEq] at hyy
                  rw [← hyy.2]; exact Nat.le_refl _
                · split at h4
                  case h_2 => cases h4
                  split at h4
                  case isFalse => cases h4
                  rw [aappend_n h4]; exact Nat.le_refl _
                · cases h4
              · rename_i f hf
                exact absurd ⟨c, f, hop, hf⟩ hcall
              · cases h4
      · rw [unwanted_step ho cw] at h1
        simp only [Option.some.injEq, Prod.mk.injEq] at h1
        rw [← h1.2]; exact Nat.le_refl _
theorem region_sound (hc : CallOK P w0 call) (hfr : FrameOK call) {id : Nat} {ops : Array Oper} {draw : Bool} {fr fr' : AFr} {st st' : St} (h : aregion P call ops draw fr st = some (fr', st')) {σ : Ren} {a : Act} {w : World} (hS : Sim P w0 σ st w) (hF : FR σ fr a) (hd : a.defers = []) (hp : putsOK a.tmps.size ops = true) :
    (Code.region id ops draw).wp P (Post P w0 σ st.n a.tmps.size .normal fr' st') a w := by
  unfold aregion at h
  split at h
  · cases h
  rename_i hdr
  have hdr := Classical.not_not.1 hdr
  have start : ∀ w1, Sim P w0 σ st w1 → ∀ nw : Bool, (nw = true → GW st) → Mid P w0 call (sdOf P ops draw) nw ops st.n σ σ (List.range ops.size) (fr', st') fr (st.bump ops.size) a w1 a.tmps.size := fun w1 h1 nw hnw =>
    ⟨h1.bump _, hF, fun j _ => h1.dom _ (by omega), by simp only [St.bump]; omega, h, Sub.refl σ, fun _ _ h => h, hd, rfl, fun hn => ⟨hfr, fun j hj => by
      have hj2 := List.mem_range.1 hj
      have hg := hnw hn
      refine ⟨by simp only [St.bump]; omega, ?_, fun k o hk => ?_⟩
      · cases hx : (st.bump ops.size).get (st.n + j) with
        | none => rfl
        | some o => have := (hg _ o hx).1; omega
      · have := (hg k o hk).2
        omega⟩⟩
  have fin : ∀ nw σ1 a1 w1, Mid P w0 call (sdOf P ops draw) nw ops st.n σ σ1 [] (fr', st') (fr', st').1 (fr', st').2 a1 w1 a.tmps.size → Post P w0 σ st.n a.tmps.size .normal fr' st' .normal a1 w1 := fun nw σ1 a1 w1 hm =>
    ⟨σ1, trivial, hm.sub, hm.old, hm.sim, hm.frr, hm.defers, hm.size⟩
  cases draw with
  | false =>
    refine wp_region (Mid.straight hc hp (fin false) (List.range ops.size) σ fr _ a w List.nodup_range (fun j hj => List.mem_range.1 hj) (start w hS false (fun hn => by cases hn)))
  | true =>
    have hsz : (Array.replicate ops.size false).size = ops.size := by simp
    have go : ∀ nw : Bool, (nw = true → GW st) → commX P (sdOf P ops true) nw ops = true → P.follows .mixedOrders = true → (Code.region id ops true).wp P (Post P w0 σ st.n a.tmps.size .normal fr' st') a w := fun nw hnw hcx hfo => by
      refine wp_region_any hfo (Mid.drawn hc hcx hp (fin nw) ops.size (List.range ops.size) _ σ fr _ a w.drew (by simp) List.pairwise_lt_range hsz (fun j => ?_) (fun i o ho hl => by
        by_cases hi : i < ops.size
        · simp [hi] at hl
        · simp [hi] at hl) (start w.drew hS.drew nw hnw))
      rw [List.mem_range]
      constructor
      · intro hj
        exact ⟨hj, by simp [hj]⟩
      · exact fun h => h.1
    rcases hdr rfl with hx | ⟨hx, hg⟩
    · rw [Bool.and_eq_true] at hx
      exact go false (fun hn => by cases hn) hx.1 hx.2
    · rw [Bool.and_eq_true] at hx
      exact go true (fun _ => hg) hx.1 hx.2
theorem region_n (hc : CallOK P w0 call) {ops : Array Oper} {draw : Bool} {fr fr' : AFr} {st st' : St} (h : aregion P call ops draw fr st = some (fr', st')) : st.n ≤ st'.n := by
  unfold aregion at h
  split at h
  · cases h
  have := arun_n hc _ _ _ _ h
  simp only [St.bump] at this
  omega
theorem AExit.is_normal {e' : Exit} (h : AExit.normal.is e') : e' = .normal := by cases e' <;> simp [AExit.is] at h ⊢
theorem AExit.is_exit {i : Nat} {e' : Exit} (h : (AExit.exit i).is e') : e' = .exit i := by cases e' <;> simp [AExit.is] at h ⊢; exact h.symm
theorem AExit.is_ret {e' : Exit} (h : AExit.ret.is e') : e' = .ret := by cases e' <;> simp [AExit.is] at h ⊢
def CodeOK (P : Program) (w0 : World) (body : AFr → St → Option (AExit × AFr × St)) (c : Code) : Prop :=
  ∀ fr st e fr' st', body fr st = some (e, fr', st') → st.n ≤ st'.n ∧ ∀ σ a w, Sim P w0 σ st w → FR σ fr a → a.defers = [] → codeOK a.tmps.size c = true → c.wp P (Post P w0 σ st.n a.tmps.size e fr' st') a w
theorem loop_n {body : AFr → St → Option (AExit × AFr × St)} {c : Code} (hb : CodeOK P w0 body c) : ∀ (n : Nat) (fr : AFr) (st : St) (e : AExit) (fr' : AFr) (st' : St), aloop body n fr st = some (e, fr', st') → st.n ≤ st'.n
  | 0, _, _, _, _, _, h => by cases h
  | n + 1, fr, st, e, fr', st', h => by
    simp only [aloop] at h
    split at h
    · rename_i fr1 st1 h1
      exact Nat.le_trans (hb _ _ _ _ _ h1).1 (loop_n hb n _ _ _ _ _ h)
    · exact (hb _ _ _ _ _ h).1
theorem loop_sound {body : AFr → St → Option (AExit × AFr × St)} {c : Code} (hb : CodeOK P w0 body c) : ∀ (n : Nat) (fr : AFr) (st : St) (e : AExit) (fr' : AFr) (st' : St), aloop body n fr st = some (e, fr', st') → ∀ σ a w, Sim P w0 σ st w → FR σ fr a → a.defers = [] → codeOK a.tmps.size c = true →
    ∀ (b : Frame) (k : List Item) (cs : List Frame), ∃ e' a' w', Post P w0 σ st.n a.tmps.size e fr' st' e' a' w' ∧ Arrives P (lone (b.at a (.code c :: .inLoop c :: k)) cs w) b k cs e' a' w'
  | 0, _, _, _, _, _, h => by cases h
  | n + 1, fr, st, e, fr', st', h => by
    intro σ a w hS hF hd hp b k cs
    simp only [aloop] at h
    split at h
    · rename_i fr1 st1 h1
      obtain ⟨e1, a1, w1, hP, harr⟩ := (hb _ _ _ _ _ h1).2 σ a w hS hF hd hp b (.inLoop c :: k) cs
      obtain ⟨σ1, he, hs, ho, hS1, hF1, hd1, hz1⟩ := hP
      have := AExit.is_normal he
      subst this
      obtain ⟨e2, a2, w2, hP2, harr2⟩ := loop_sound hb n fr1 st1 e fr' st' h σ1 a1 w1 hS1 hF1 hd1 (by rw [hz1]; exact hp) b k cs
      rw [hz1] at hP2
      exact ⟨e2, a2, w2, hP2.then_ hs ho (hb _ _ _ _ _ h1).1, .of_steps (Steps.trans harr (.one step_inLoop)) harr2⟩
    · rename_i r hne
      obtain ⟨e1, a1, w1, hP, harr⟩ := (hb _ _ _ _ _ h).2 σ a w hS hF hd hp b (.inLoop c :: k) cs
      refine ⟨e1, a1, w1, hP, .pass (x := .inLoop c) rfl (fun _ _ => .inl (fun he1 => ?_)) harr⟩
      obtain ⟨σ1, he, _⟩ := hP
      subst he1
      cases e with
      | normal => exact hne fr' st' h
      | exit i => simp [AExit.is] at he
      | ret => simp [AExit.is] at he
theorem code_sound (hc : CallOK P w0 call) (hfr : FrameOK call) (n : Nat) : ∀ c : Code, CodeOK P w0 (acode P call n c) c
  | .skip => by
    intro fr st e fr' st' h
    simp only [acode, Option.some.injEq, Prod.mk.injEq] at h
    obtain ⟨rfl, rfl, rfl⟩ := h
    exact ⟨Nat.le_refl _, fun σ a w hS hF hd hp => wp_skip ⟨σ, trivial, Sub.refl σ, fun _ _ h => h, hS, hF, hd, rfl⟩⟩
  | .region id ops draw => by
    intro fr st e fr' st' h
    simp only [acode] at h
    obtain ⟨⟨fr1, st1⟩, h1, h2⟩ := Option.map_eq_some_iff.1 h
    simp only [Prod.mk.injEq] at h2
    obtain ⟨rfl, rfl, rfl⟩ := h2
    exact ⟨region_n hc h1, fun σ a w hS hF hd hp => region_sound hc hfr h1 hS hF hd hp⟩
  | .seq x y => by
    intro fr st e fr' st' h
    simp only [acode] at h
    split at h
    · rename_i fr1 st1 h1
      have ix := code_sound hc hfr n x _ _ _ _ _ h1
      have iy := code_sound hc hfr n y _ _ _ _ _ h
      refine ⟨Nat.le_trans ix.1 iy.1, fun σ a w hS hF hd hp => ?_⟩
      simp only [codeOK, Bool.and_eq_true] at hp
      refine wp_seq (wp_mono (ix.2 σ a w hS hF hd hp.1) fun e1 a1 w1 hP => ?_)
      obtain ⟨σ1, he, hs, ho, hS1, hF1, hd1, hz1⟩ := hP
      have := AExit.is_normal he
      subst this
      refine wp_mono (iy.2 σ1 a1 w1 hS1 hF1 hd1 (by rw [hz1]; exact hp.2)) fun e2 a2 w2 hP2 => ?_
      rw [hz1] at hP2
      exact hP2.then_ hs ho ix.1
    · rename_i hne
      have ix := code_sound hc hfr n x _ _ _ _ _ h
      refine ⟨ix.1, fun σ a w hS hF hd hp => ?_⟩
      simp only [codeOK, Bool.and_eq_true] at hp
      refine wp_seq (wp_mono (ix.2 σ a w hS hF hd hp.1) fun e1 a1 w1 hP => ?_)
      cases e with
      | normal => exact absurd h (hne fr' st')
      | exit i =>
        obtain ⟨σ1, he, hr⟩ := hP
        have := AExit.is_exit he
        subst this
        exact ⟨σ1, rfl, hr⟩
      | ret =>
        obtain ⟨σ1, he, hr⟩ := hP
        have := AExit.is_ret he
        subst this
        exact ⟨σ1, trivial, hr⟩
  | .cond c x y => by
    intro fr st e fr' st' h
    simp only [acode] at h
    split at h
    case h_2 => cases h
    rename_i t ht
    have hcv : ∀ {σ : Ren} {a : Act}, FR σ fr a → a.eval c = .bool t := by
      intro σ a hF
      have hv := hF.eval c
      rw [ht] at hv
      generalize a.eval c = cv at hv
      cases hv
      rfl
    cases t with
    | true =>
      simp only [if_true] at h
      have ix := code_sound hc hfr n x _ _ _ _ _ h
      refine ⟨ix.1, fun σ a w hS hF hd hp => ?_⟩
      simp only [codeOK, Bool.and_eq_true] at hp
      exact wp_cond_true (hcv hF) (ix.2 σ a w hS hF hd hp.1)
    | false =>
      simp only [Bool.false_eq_true, if_false] at h
      have ix := code_sound hc hfr n y _ _ _ _ _ h
      refine ⟨ix.1, fun σ a w hS hF hd hp => ?_⟩
      simp only [codeOK, Bool.and_eq_true] at hp
      exact wp_cond_false (hcv hF) (ix.2 σ a w hS hF hd hp.2)
  | .block id x => by
    intro fr st e fr' st' h
    simp only [acode] at h
    split at h
    · rename_i i fr1 st1 h1
      have ix := code_sound hc hfr n x _ _ _ _ _ h1
      by_cases hi : i = id
      · rw [if_pos hi] at h
        simp only [Option.some.injEq, Prod.mk.injEq] at h
        obtain ⟨rfl, rfl, rfl⟩ := h
        refine ⟨ix.1, fun σ a w hS hF hd hp => wp_block (wp_mono (ix.2 σ a w hS hF hd hp) fun e1 a1 w1 hP => ?_)⟩
        obtain ⟨σ1, he, hr⟩ := hP
        have := AExit.is_exit he
        subst this
        simp only [Exit.inBlock, hi, if_true]
        exact ⟨σ1, trivial, hr⟩
      · rw [if_neg hi] at h
        simp only [Option.some.injEq, Prod.mk.injEq] at h
        obtain ⟨rfl, rfl, rfl⟩ := h
        refine ⟨ix.1, fun σ a w hS hF hd hp => wp_block (wp_mono (ix.2 σ a w hS hF hd hp) fun e1 a1 w1 hP => ?_)⟩
        obtain ⟨σ1, he, hr⟩ := hP
        have := AExit.is_exit he
        subst this
        simp only [Exit.inBlock, hi, if_false]
        exact ⟨σ1, rfl, hr⟩
    · rename_i hne
      have ix := code_sound hc hfr n x _ _ _ _ _ h
      refine ⟨ix.1, fun σ a w hS hF hd hp => wp_block (wp_mono (ix.2 σ a w hS hF hd hp) fun e1 a1 w1 hP => ?_)⟩
      cases e with
      | normal =>
        obtain ⟨σ1, he, hr⟩ := hP
        have := AExit.is_normal he
        subst this
        exact ⟨σ1, trivial, hr⟩
      | exit i => exact absurd h (hne i fr' st')
      | ret =>
        obtain ⟨σ1, he, hr⟩ := hP
        have := AExit.is_ret he
        subst this
        exact ⟨σ1, trivial, hr⟩
  | .loop x => by
    intro fr st e fr' st' h
    simp only [acode] at h
    have ix := code_sound hc hfr n x
    refine ⟨loop_n ix n _ _ _ _ _ h, fun σ a w hS hF hd hp b k cs => ?_⟩
    obtain ⟨e1, a1, w1, hP, harr⟩ := loop_sound ix n fr st e fr' st' h σ a w hS hF hd hp b k cs
    exact ⟨e1, a1, w1, hP, .of_steps (.one step_loop) harr⟩
  | .exit id => by
    intro fr st e fr' st' h
    simp only [acode, Option.some.injEq, Prod.mk.injEq] at h
    obtain ⟨rfl, rfl, rfl⟩ := h
    exact ⟨Nat.le_refl _, fun σ a w hS hF hd hp => wp_exit ⟨σ, rfl, Sub.refl σ, fun _ _ h => h, hS, hF, hd, rfl⟩⟩
  | .ret => by
    intro fr st e fr' st' h
    simp only [acode, Option.some.injEq, Prod.mk.injEq] at h
    obtain ⟨rfl, rfl, rfl⟩ := h
    exact ⟨Nat.le_refl _, fun σ a w hS hF hd hp => wp_ret ⟨σ, trivial, Sub.refl σ, fun _ _ h => h, hS, hF, hd, rfl⟩⟩
  | .rangeFunc .. | .scope _ | .label _ | .goto _ | .refuse _ => by
    intro fr st e fr' st' h
    simp [acode] at h
theorem results_run {fn : Func} {σ : Ren} {fr : AFr} {a : Act} {r : AV} {st : St} {w : World} (hS : Sim P w0 σ st w) (hF : FR σ fr a) (h : aresults P st fn fr = some r) : ∃ v, (results fn a.tmps).run P w = .ok v w ∧ VR σ r v := by
  unfold aresults at h
  obtain ⟨xs, hxs, rfl⟩ := Option.map_eq_some_iff.1 h
  have key : ∀ (g : ResultVar → Sem Value), (∀ t, g (.tmp t) = pure (a.tmps.getD t undef)) → (∀ p q, g (.cell p q) = (do loadVar q (← asAddr (a.tmps.getD p undef)))) → ∀ (l : List ResultVar) (ys : List AV), l.mapM (aresult P st fr) = some ys → ∃ vs : List Value, CR σ ys vs ∧ (l.mapM g : Sem (List Value)).run P w = .ok vs w := by
    intro g hg hgc l
    induction l with
    | nil => intro ys hy; simp at hy; subst hy; exact ⟨[], CR.nil σ, rfl⟩
    | cons x r ih =>
      intro ys hy
      rw [List.mapM_cons] at hy
      simp only [Option.bind_eq_bind, Option.pure_def, Option.bind_eq_some_iff, Option.some.injEq] at hy
      obtain ⟨y, h1, ys', h2, rfl⟩ := hy
      obtain ⟨vs, hv1, hv2⟩ := ih ys' h2
      cases x with
      | cell p q =>
        simp only [aresult] at h1
        have hp := (hF p).1
        obtain ⟨u, hu1, hu2⟩ := sim_load hS hp h1
        have hrun : (do loadVar q (← asAddr (a.tmps.getD p undef)) : Sem Value).run P w = .ok u w := by
          rw [← hu1]
          unfold aload at h1
          split at h1
          · rename_i i off hx
            rw [hx] at hp
            generalize a.tmps.getD p undef = pv at hp
            cases hp with
            | ptr hi => simp only [Instr.loadAt, Instr.sureAddr, asAddr, Sem.run_bind, Sem.run_pure, Result.andThen_ok]
          · rename_i i off hx
            rw [hx] at hp
            generalize a.tmps.getD p undef = pv at hp
            cases hp with
            | pl => simp only [Instr.loadAt, Instr.sureAddr, asAddr, Sem.run_bind, Sem.run_pure, Result.andThen_ok]
          · cases h1
        refine ⟨u :: vs, ⟨by simp [hv1.1], fun j x v hx hv => ?_⟩, ?_⟩
        · cases j with
          | zero =>
            simp only [List.getElem?_cons_zero, Option.some.injEq] at hx hv
            subst hx; subst hv
            exact hu2
          | succ j => exact hv1.2 j x v (by simpa using hx) (by simpa using hv)
        · simp only [List.mapM_cons, hgc, Sem.run_bind]
          rw [Sem.run_bind] at hrun
          rw [hrun]
          simp only [Sem.run_pure, Result.andThen_ok, hv2]
      | tmp t =>
        simp only [aresult, Option.some.injEq] at h1
        subst h1
        refine ⟨a.tmps.getD t undef :: vs, ⟨by simp [hv1.1], fun j x v hx hv => ?_⟩, ?_⟩
        · cases j with
          | zero =>
            simp only [List.getElem?_cons_zero, Option.some.injEq] at hx hv
            subst hx; subst hv
            exact (hF t).1
          | succ j => exact hv1.2 j x v (by simpa using hx) (by simpa using hv)
        · simp only [List.mapM_cons, hg, Sem.run_bind, Sem.run_pure, Result.andThen_ok, hv2]
  have hrun2 : ∃ vs : List Value, CR σ xs vs ∧ (results fn a.tmps).run P w = .ok (if h : vs.toArray.size = 1 then vs.toArray[0] else .tuple vs.toArray) w := by
    obtain ⟨vs, h1, h2⟩ := key (fun | .tmp t => pure (a.tmps.getD t undef) | .cell x t => do loadVar t (← asAddr (a.tmps.getD x undef))) (fun t => rfl) (fun p q => rfl) fn.results.toList xs hxs
    refine ⟨vs, h1, ?_⟩
    unfold results
    rw [Array.mapM_eq_mapM_toList]
    simp only [map_eq_pure_bind, Sem.run_bind]
    erw [h2]
    simp only [Result.andThen_ok, Sem.run_pure]
  obtain ⟨vs, hcr, hrun2⟩ := hrun2
  refine ⟨_, hrun2, ?_⟩
  have hl := hcr.1
  split
  · rename_i x
    have : vs.length = 1 := by simpa using hl.symm
    rw [dif_pos (by simpa using this)]
    have h0 : 0 < vs.length := by omega
    exact hcr.2 0 x _ rfl (by simp [h0])
  · rename_i hne
    have hn1 : ¬ vs.toArray.size = 1 := by
      intro he
      simp only [List.size_toArray] at he
      rw [← hl] at he
      match xs, he with
      | [x], _ => exact hne x rfl
    rw [dif_neg hn1]
    exact .tup (by simpa using hl) (fun j x v hx hv => hcr.2 j x v hx (by simpa using hv))
theorem call_sound (P : Program) (w0 : World) (hP : oracP P w0) : ∀ k, CallOK P w0 (acall P k)
  | 0 => by
    intro f xs st r st' h
    cases h
  | k + 1 => by
    intro f xs st r st' h
    simp only [acall] at h
    split at h
    case isTrue =>
      rename_i hf
      exact orac_ok hP (call_sound P w0 hP k) hf h
    split at h
    case h_2 => cases h
    rename_i fn hfn
    unfold afunc at h
    split at h
    case h_2 => cases h
    rename_i c hbody
    split at h
    case isFalse => cases h
    rename_i hok
    simp only [Bool.and_eq_true, bne_iff_ne, ne_eq] at hok
    have hcode := code_sound (call_sound P w0 hP k) (acall_frame P k) k c
    have hsol := hok.2
    have hok := hok.1
    have go : ∀ e fr', (e = .normal ∨ e = .ret) → acode P (acall P k) k c (fun t => xs.getD t (.pl undef)) st = some (e, fr', st') → aresults P st' fn fr' = some r →
        st.n ≤ st'.n ∧ ∀ σ w vs, Sim P w0 σ st w → CR σ xs vs → Calls P f vs.toArray w (fun e w' => ∃ v σ', e = .returned v ∧ Sub σ σ' ∧ (∀ i, i < st.n → σ i = none → σ' i = none) ∧ Sim P w0 σ' st' w' ∧ VR σ' r v) := by
      intro e fr' he h1 h2
      have hh := hcode _ _ _ _ _ h1
      refine ⟨hh.1, fun σ w vs hS hcr => ?_⟩
      have hF : FR σ (fun t => xs.getD t (.pl undef)) { tmps := vs.toArray ++ Array.replicate (fn.ntmps - vs.toArray.size) undef, defers := [] } := by
        intro t
        by_cases ht : t < vs.length
        · have hx := List.getElem?_eq_getElem (l := xs) (i := t) (by rw [hcr.1]; exact ht)
          have hv := List.getElem?_eq_getElem (l := vs) (i := t) ht
          have := hcr.2 t _ _ hx hv
          have e : (vs.toArray ++ Array.replicate (fn.ntmps - vs.toArray.size) undef).getD t undef = vs[t] := by simp [Array.getElem?_append, ht]
          show VR σ (xs.getD t (.pl undef)) _ ∧ (xs.getD t (.pl undef)).solid = true
          rw [e]
          refine ⟨by simpa [List.getD, hx] using this, ?_⟩
          simp only [List.getD, hx, Option.getD_some]
          exact List.all_eq_true.1 hsol _ (List.mem_of_getElem? hx)
        · have hx : xs[t]? = none := List.getElem?_eq_none (by rw [hcr.1]; omega)
          have : (vs.toArray ++ Array.replicate (fn.ntmps - vs.toArray.size) undef).getD t undef = undef := by
            by_cases h3 : t - vs.length < fn.ntmps - vs.length
            · simp [ht, h3, Array.getElem?_append, Array.getElem?_replicate]
            · simp [ht, h3, Array.getElem?_append, Array.getElem?_replicate]
          show VR σ (xs.getD t (.pl undef)) _ ∧ (xs.getD t (.pl undef)).solid = true
          rw [this]
          simp only [List.getD, hx, Option.getD_none]
          exact ⟨.pl _, rfl⟩
      have hsize : codeOK (vs.toArray ++ Array.replicate (fn.ntmps - vs.toArray.size) undef).size c = true := by
        have mono : ∀ (c : Code) (a b : Nat), a ≤ b → codeOK a c = true → codeOK b c = true := by
          intro c
          induction c with
          | region id ops dr =>
            intro a b hab h
            simp only [codeOK, putsOK] at h ⊢
            refine Array.all_eq_true_iff_forall_mem.2 fun o ho => ?_
            have := Array.all_eq_true_iff_forall_mem.1 h o ho
            cases hd : o.dst with
            | none => rfl
            | some d =>
              rw [hd] at this
              have h2 : d < a := by simpa using this
              have h3 : d < b := Nat.lt_of_lt_of_le h2 hab
              simpa using h3
          | seq x y ihx ihy => intro a b hab h; simp only [codeOK, Bool.and_eq_true] at h ⊢; exact ⟨ihx a b hab h.1, ihy a b hab h.2⟩
          | cond q x y ihx ihy => intro a b hab h; simp only [codeOK, Bool.and_eq_true] at h ⊢; exact ⟨ihx a b hab h.1, ihy a b hab h.2⟩
          | block id x ih => intro a b hab h; exact ih a b hab h
          | loop x ih => intro a b hab h; exact ih a b hab h
          | _ => intros; rfl
        refine mono c fn.ntmps _ ?_ hok.1
        simp
        omega
      refine calls_of_wp hfn hbody (wp_mono (hh.2 σ _ w hS hF rfl hsize) fun e1 a1 w1 hP => ?_)
      obtain ⟨σ1, hee, hs, ho, hS1, hF1, hd1, hz1⟩ := hP
      obtain ⟨v, hv, hV⟩ := results_run (P := P) hS1 hF1 h2
      rcases he with rfl | rfl
      · have := AExit.is_normal hee
        subst this
        exact ⟨hd1, v, hv, v, σ1, rfl, hs, ho, hS1, hV⟩
      · have := AExit.is_ret hee
        subst this
        exact ⟨hd1, v, hv, v, σ1, rfl, hs, ho, hS1, hV⟩
    refine ⟨⟨fn, hfn, by simpa using hok.2, by rw [hbody]; rfl⟩, ?_⟩
    split at h
    · rename_i fr1 st1 h1
      obtain ⟨r1, hr1, hyy⟩ := Option.map_eq_some_iff.1 h
      simp only [Prod.mk.injEq] at hyy
      obtain ⟨rfl, rfl⟩ := hyy
      exact go _ _ (.inl rfl) h1 hr1
    · rename_i fr1 st1 h1
      obtain ⟨r1, hr1, hyy⟩ := Option.map_eq_some_iff.1 h
      simp only [Prod.mk.injEq] at hyy
      obtain ⟨rfl, rfl⟩ := hyy
      exact go _ _ (.inr rfl) h1 hr1
    · cases h
end
/-- What came in, by names: a name is its block's number. -/
def absV : Value → AV
  | .slice (some ⟨b, o, none⟩) len cap => if len ≤ cap ∧ cap ≤ maxLen then .sl b o len 0 else .pl (.slice (some ⟨b, o, none⟩) len cap)
  | .pointer (some ⟨b, o, none⟩) => .ptr b o
  | v => .pl v
def reach (w : World) : Value → Bool
  | .slice (some a) _ _ => decide (a.block < w.heap.size)
  | .pointer (some a) => decide (a.block < w.heap.size)
  | _ => true
def absSt (w : World) : St where
  n := w.heap.size
  ch := fun _ => none
  get := fun i => match w.heap[i]? with
    | some (.cells c e _) => some ⟨c.toList.map fun v => if reach w v = true then absV v else .pl v, e, false, i⟩
    | _ => none
def renSt (w : World) : Ren := fun i => if i < w.heap.size then some ⟨i, 0, 0, 0, false⟩ else none
theorem absV_ok (w : World) (v : Value) (h : reach w v = true) : VR (renSt w) (absV v) v := by
  unfold absV
  split
  · rename_i b o len cap
    simp only [reach, decide_eq_true_eq] at h
    split
    · rename_i hc
      exact .sl (l := ⟨b, 0, 0, 0, false⟩) (by simp [renSt, h]) hc.1 hc.2 (.inr (Nat.zero_add _).symm) (fun hf => by cases hf)
    · exact .pl _
  · rename_i b o
    simp only [reach, decide_eq_true_eq] at h
    have := VR.ptr (σ := renSt w) (i := b) (off := o) (l := ⟨b, 0, 0, 0, false⟩) (by simp [renSt, h])
    simpa using this
  · exact .pl _
theorem absSt_sim (P : Program) (w : World) (hg : P.globals.size ≤ w.heap.size) : Sim P w (renSt w) (absSt w) w := by
  refine ⟨Below.refl _ _, fun i hi => ?_, fun i o hi => ?_, fun i l hi => ?_, fun i j o o' l l' hi hj hli hlj hown _ => ?_, fun g hl => by simp only [renSt]; rw [if_pos (by omega)], ⟨fun _ _ h => by simp [absSt] at h, fun _ _ _ _ _ _ h => by simp [absSt] at h, fun _ _ _ _ _ _ _ h => by simp [absSt] at h⟩⟩
  · have : ¬ i < w.heap.size := by simp only [absSt] at hi; omega
    simp [renSt, this]
  · simp only [absSt] at hi
    split at hi
    · rename_i c e fz hb
      simp only [Option.some.injEq] at hi
      subst hi
      have hlt : i < w.heap.size := (Array.getElem?_eq_some_iff.1 hb).1
      refine ⟨⟨i, 0, 0, 0, false⟩, by simp [renSt, hlt], rfl, c, e, fz, hb, ?_, fun hf => by cases hf⟩
      refine ⟨by simp, fun j x v hx hv => ?_⟩
      rw [List.getElem?_map] at hx
      simp only [List.drop_zero, List.length_map] at hv
      rw [List.take_of_length_le (Nat.le_refl _)] at hv
      rw [hv] at hx
      simp only [Option.map_some, Option.some.injEq] at hx
      subst hx
      split
      · rename_i hcond
        exact absV_ok w v hcond
      · exact .pl v
    · cases hi
  · simp only [renSt] at hi
    split at hi
    · rename_i hlt
      simp only [Option.some.injEq] at hi
      subst hi
      exact .inl ⟨rfl, hlt⟩
    · cases hi
  · simp only [renSt] at hli
    split at hli
    · simp only [Option.some.injEq] at hli
      subst hli
      cases hown
    · cases hli
/-- From the outside. -/
theorem run_sound (P : Program) (w : World) (hP : oracP P w) (hg : P.globals.size ≤ w.heap.size) {k : Nat} {f : FuncId} {xs : List AV} {vs : List Value} {r : AV} {st' : St} (hx : CR (renSt w) xs vs) (h : acall P k f xs (absSt w) = some (r, st')) :
    Calls P f vs.toArray w (fun e w' => ∃ v, e = .returned v ∧ Below w.heap.size w w' ∧ ∃ σ', VR σ' r v) :=
  ((call_sound P w hP k f xs _ r st' h).2.2 (renSt w) w vs (absSt_sim P w hg) hx).mono fun e w' he => by
    obtain ⟨v, σ', rfl, _, _, hS, hV⟩ := he
    exact ⟨v, rfl, hS.below, σ', hV⟩
theorem run_true (P : Program) (w : World) (hg : P.globals.size ≤ w.heap.size) {k : Nat} {f : FuncId} {xs : List AV} {vs : List Value} {st' : St} (hx : CR (renSt w) xs vs) (h : acall P k f xs (absSt w) = some (.pl (.bool true), st')) (hP : oracP P w := by first | exact True.intro | exact rfl) :
    Calls P f vs.toArray w (fun e w' => e = .returned (.bool true) ∧ Below w.heap.size w w') :=
  (run_sound P w hP hg hx h).mono fun e w' he => by
    obtain ⟨v, rfl, hB, σ', hV⟩ := he
    cases hV
    exact ⟨rfl, hB⟩
end Go.Proofs.YtjpgpkkbmoehdaaDoor.Ra
