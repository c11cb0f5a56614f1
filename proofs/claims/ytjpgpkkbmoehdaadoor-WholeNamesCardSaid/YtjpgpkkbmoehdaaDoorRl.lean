/- How the machine of names is reasoned about: what is true from some number of rounds on; one rule for each form of code. -/
import Derived.Test.YtjpgpkkbmoehdaaDoorRk
namespace Go.Proofs.YtjpgpkkbmoehdaaDoor.Ra
open Go Go.RowKit
set_option linter.unusedVariables false
set_option linter.unusedSimpArgs false
section
variable {P : Program}
def LeC (c c' : ACall) : Prop := ∀ f xs st r, c f xs st = some r → c' f xs st = some r
theorem aop_mono {c c' : ACall} (h : LeC c c') {id : Nat} {o : Oper} {fr : AFr} {st : St} {r : AV × St} (ha : aop P c id o fr st = some r) : aop P c' id o fr st = some r := by
  obtain ⟨dst, op, type, pos, after, guard⟩ := o
  cases op with
  | call q =>
    simp only [aop] at ha ⊢
    cases hq : q.callee with
    | builtin b => simp only [hq] at ha ⊢; exact ha
    | invoke a b => simp only [hq] at ha; cases ha
    | value f =>
      simp only [hq] at ha ⊢
      cases hf : aeval fr f with
      | fn g caps => simp only [hf] at ha ⊢; exact h _ _ _ _ ha
      | _ => simp only [hf] at ha; cases ha
  | makeFunc fn a b => cases fn <;> exact ha
  | _ => exact ha
theorem astep_mono {c c' : ACall} (h : LeC c c') {sd : Bool} {ops : Array Oper} {n0 i : Nat} {fr : AFr} {st : St} {r : AFr × St} (ha : astep P c sd ops n0 i fr st = some r) : astep P c' sd ops n0 i fr st = some r := by
  cases ho : ops[i]? with
  | none => unfold astep at ha; simp only [ho] at ha; cases ha
  | some o =>
    obtain ⟨fr1, st1⟩ := r
    by_cases cw : awanted ops fr o = true
    · obtain ⟨y, h1, h2, h3⟩ := (wanted_step ho cw).1 ha
      exact (wanted_step ho cw).2 ⟨y, aop_mono h h1, h2, h3⟩
    · rw [unwanted_step ho cw] at ha ⊢
      exact ha
theorem arun_mono {c c' : ACall} (h : LeC c c') {sd : Bool} {ops : Array Oper} {n0 : Nat} : ∀ (l : List Nat) (fr : AFr) (st : St) (r : AFr × St), arun P c sd ops n0 l fr st = some r → arun P c' sd ops n0 l fr st = some r
  | [], fr, st, r, ha => ha
  | i :: l, fr, st, r, ha => by
    simp only [arun] at ha ⊢
    obtain ⟨x, h1, h2⟩ := Option.bind_eq_some_iff.1 ha
    rw [astep_mono h h1]
    exact arun_mono h l _ _ _ h2
theorem aregion_mono {c c' : ACall} (h : LeC c c') {ops : Array Oper} {draw : Bool} {fr : AFr} {st : St} {r : AFr × St} (ha : aregion P c ops draw fr st = some r) : aregion P c' ops draw fr st = some r := by
  unfold aregion at ha ⊢
  split at ha
  · cases ha
  · rename_i hd
    rw [if_neg hd]
    exact arun_mono h _ _ _ _ ha
theorem aloop_mono {b b' : AFr → St → Option (AExit × AFr × St)} (h : ∀ fr st r, b fr st = some r → b' fr st = some r) : ∀ (n m : Nat) (fr : AFr) (st : St) (r : AExit × AFr × St), n ≤ m → aloop b n fr st = some r → aloop b' m fr st = some r
  | 0, _, _, _, _, _, ha => by cases ha
  | n + 1, 0, _, _, _, hm, _ => by omega
  | n + 1, m + 1, fr, st, r, hm, ha => by
    simp only [aloop] at ha ⊢
    split at ha
    · rename_i fr1 st1 h1
      rw [h _ _ _ h1]
      exact aloop_mono h n m _ _ _ (by omega) ha
    · rename_i hne
      rw [h _ _ _ ha]
      obtain ⟨e, fr1, st1⟩ := r
      cases e with
      | normal => exact absurd ha (hne fr1 st1)
      | _ => rfl
theorem acode_mono {c c' : ACall} (h : LeC c c') {n m : Nat} (hm : n ≤ m) : ∀ (x : Code) (fr : AFr) (st : St) (r : AExit × AFr × St), acode P c n x fr st = some r → acode P c' m x fr st = some r
  | .skip, fr, st, r, ha => ha
  | .region _ ops draw, fr, st, r, ha => by
    simp only [acode] at ha ⊢
    obtain ⟨y, h1, h2⟩ := Option.map_eq_some_iff.1 ha
    rw [aregion_mono h h1]
    exact congrArg some h2
  | .seq a b, fr, st, r, ha => by
    simp only [acode] at ha ⊢
    split at ha
    · rename_i fr1 st1 h1
      rw [acode_mono h hm a _ _ _ h1]
      exact acode_mono h hm b _ _ _ ha
    · rename_i hne
      rw [acode_mono h hm a _ _ _ ha]
      obtain ⟨e, fr1, st1⟩ := r
      cases e with
      | normal => exact absurd ha (hne fr1 st1)
      | _ => rfl
  | .cond q a b, fr, st, r, ha => by
    simp only [acode] at ha ⊢
    split at ha
    · rename_i t ht
      cases t with
      | true => simp only [if_true] at ha ⊢; exact acode_mono h hm a _ _ _ ha
      | false => simp only [Bool.false_eq_true, if_false] at ha ⊢; exact acode_mono h hm b _ _ _ ha
    · cases ha
  | .block id a, fr, st, r, ha => by
    simp only [acode] at ha ⊢
    split at ha
    · rename_i i fr1 st1 h1
      rw [acode_mono h hm a _ _ _ h1]
      exact ha
    · rename_i hne
      rw [acode_mono h hm a _ _ _ ha]
      obtain ⟨e, fr1, st1⟩ := r
      cases e with
      | exit i => exact absurd ha (hne i fr1 st1)
      | _ => rfl
  | .loop a, fr, st, r, ha => aloop_mono (acode_mono h hm a) n m fr st r hm ha
  | .exit _, fr, st, r, ha => ha
  | .ret, fr, st, r, ha => ha
  | .rangeFunc .., fr, st, r, ha => by simp [acode] at ha
  | .scope _, fr, st, r, ha => by simp [acode] at ha
  | .label _, fr, st, r, ha => by simp [acode] at ha
  | .goto _, fr, st, r, ha => by simp [acode] at ha
  | .refuse _, fr, st, r, ha => by simp [acode] at ha
theorem afunc_mono {c c' : ACall} (h : LeC c c') {n m : Nat} (hm : n ≤ m) {fn : Func} {xs : List AV} {st : St} {r : AV × St} (ha : afunc P c n fn xs st = some r) : afunc P c' m fn xs st = some r := by
  unfold afunc at ha ⊢
  cases hb : fn.body with
  | none => simp only [hb] at ha; cases ha
  | some x =>
    simp only [hb] at ha ⊢
    split at ha
    · rename_i hok
      rw [if_pos hok]
      split at ha
      · rename_i h1
        rw [acode_mono h hm x _ _ _ h1]
        exact ha
      · rename_i h1
        rw [acode_mono h hm x _ _ _ h1]
        exact ha
      · cases ha
    · cases ha
theorem acall_mono : ∀ (k m : Nat), k ≤ m → LeC (acall P k) (acall P m)
  | 0, _, _ => by intro f xs st r h; cases h
  | k + 1, 0, hm => by omega
  | k + 1, m + 1, hm => by
    intro f xs st r h
    simp only [acall] at h ⊢
    by_cases ho : isOrac f = true
    · rw [if_pos ho] at h ⊢
      exact orac_mono (acall_mono k m (by omega)) h
    rw [if_neg ho] at h ⊢
    cases hf : P.funcs[f]? with
    | none => simp only [hf] at h; cases h
    | some fn =>
      simp only [hf] at h ⊢
      exact afunc_mono (acall_mono k m (by omega)) (by omega) h
/-- A call ends, and what holds then. -/
def ACalls (P : Program) (f : FuncId) (xs : List AV) (st : St) (Q : AV → St → Prop) : Prop := ∃ k r st', acall P k f xs st = some (r, st') ∧ Q r st'
/-- Some code ends, and what holds then. -/
structure AW (P : Program) (c : Code) (fr : AFr) (st : St) (Q : AExit → AFr → St → Prop) : Prop where
  ex : ∃ k e fr' st', acode P (acall P k) k c fr st = some (e, fr', st') ∧ Q e fr' st'
/-- Some operations (from the i-th on) end, and what holds then. -/
def AR (P : Program) (sd : Bool) (ops : Array Oper) (n0 : Nat) (i : Nat) (fr : AFr) (st : St) (Q : AFr → St → Prop) : Prop := ∃ k fr' st', arun P (acall P k) sd ops n0 ((List.range ops.size).drop i) fr st = some (fr', st') ∧ Q fr' st'
theorem ACalls.mono {f : FuncId} {xs : List AV} {st : St} {Q Q' : AV → St → Prop} (h : ACalls P f xs st Q) (hq : ∀ r st', Q r st' → Q' r st') : ACalls P f xs st Q' :=
  let ⟨k, r, st', h1, h2⟩ := h; ⟨k, r, st', h1, hq _ _ h2⟩
theorem AW.mono {c : Code} {fr : AFr} {st : St} {Q Q' : AExit → AFr → St → Prop} (h : AW P c fr st Q) (hq : ∀ e fr' st', Q e fr' st' → Q' e fr' st') : AW P c fr st Q' :=
  let ⟨k, e, fr', st', h1, h2⟩ := h; ⟨k, e, fr', st', h1, hq _ _ _ h2⟩
theorem aw_skip {fr : AFr} {st : St} {Q : AExit → AFr → St → Prop} (h : Q .normal fr st) : AW P .skip fr st Q := ⟨0, _, _, _, rfl, h⟩
theorem aw_exit {id : Nat} {fr : AFr} {st : St} {Q : AExit → AFr → St → Prop} (h : Q (.exit id) fr st) : AW P (.exit id) fr st Q := ⟨0, _, _, _, rfl, h⟩
theorem aw_ret {fr : AFr} {st : St} {Q : AExit → AFr → St → Prop} (h : Q .ret fr st) : AW P .ret fr st Q := ⟨0, _, _, _, rfl, h⟩
def seqQ (P : Program) (b : Code) (Q : AExit → AFr → St → Prop) : AExit → AFr → St → Prop
  | .normal, fr, st => AW P b fr st Q
  | e, fr, st => Q e fr st
theorem aw_seq {a b : Code} {fr : AFr} {st : St} {Q : AExit → AFr → St → Prop} (h : AW P a fr st (seqQ P b Q)) : AW P (.seq a b) fr st Q := by
  obtain ⟨k, e, fr1, st1, h1, h2⟩ := h
  cases e with
  | normal =>
    obtain ⟨m, e2, fr2, st2, h3, h4⟩ := h2
    refine ⟨max k m, e2, fr2, st2, ?_, h4⟩
    simp only [acode]
    rw [acode_mono (acall_mono k _ (Nat.le_max_left k m)) (Nat.le_max_left k m) a _ _ _ h1]
    exact acode_mono (acall_mono m _ (Nat.le_max_right k m)) (Nat.le_max_right k m) b _ _ _ h3
  | exit i => exact ⟨k, _, fr1, st1, by simp only [acode, h1], h2⟩
  | ret => exact ⟨k, _, fr1, st1, by simp only [acode, h1], h2⟩
theorem aw_cond {c : Operand} {a b : Code} {fr : AFr} {st : St} {t : Bool} {Q : AExit → AFr → St → Prop} (hc : aeval fr c = .pl (.bool t)) (ht : t = true → AW P a fr st Q) (hf : t = false → AW P b fr st Q) : AW P (.cond c a b) fr st Q := by
  cases t with
  | true => obtain ⟨k, e, fr1, st1, h1, h2⟩ := ht rfl; exact ⟨k, e, fr1, st1, by simp only [acode, hc, if_true, h1], h2⟩
  | false => obtain ⟨k, e, fr1, st1, h1, h2⟩ := hf rfl; exact ⟨k, e, fr1, st1, by simp only [acode, hc, Bool.false_eq_true, if_false, h1], h2⟩
theorem aw_condT {c : Operand} {a b : Code} {fr : AFr} {st : St} {Q : AExit → AFr → St → Prop} (hc : aeval fr c = .pl (.bool true)) (h : AW P a fr st Q) : AW P (.cond c a b) fr st Q := aw_cond hc (fun _ => h) (fun h => by cases h)
theorem aw_condF {c : Operand} {a b : Code} {fr : AFr} {st : St} {Q : AExit → AFr → St → Prop} (hc : aeval fr c = .pl (.bool false)) (h : AW P b fr st Q) : AW P (.cond c a b) fr st Q := aw_cond hc (fun h => by cases h) (fun _ => h)
def blockQ (id : Nat) (Q : AExit → AFr → St → Prop) : AExit → AFr → St → Prop
  | .exit i, fr, st => if i = id then Q .normal fr st else Q (.exit i) fr st
  | e, fr, st => Q e fr st
theorem aw_block {id : Nat} {a : Code} {fr : AFr} {st : St} {Q : AExit → AFr → St → Prop} (h : AW P a fr st (blockQ id Q)) : AW P (.block id a) fr st Q := by
  obtain ⟨k, e, fr1, st1, h1, h2⟩ := h
  cases e with
  | exit i =>
    simp only [blockQ] at h2
    split at h2
    · exact ⟨k, _, fr1, st1, by simp only [acode, h1]; rw [if_pos (by assumption)], h2⟩
    · exact ⟨k, _, fr1, st1, by simp only [acode, h1]; rw [if_neg (by assumption)], h2⟩
  | normal => exact ⟨k, _, fr1, st1, by simp only [acode, h1], h2⟩
  | ret => exact ⟨k, _, fr1, st1, by simp only [acode, h1], h2⟩
theorem aw_loop {a : Code} {fr : AFr} {st : St} {Q : AExit → AFr → St → Prop} (h : AW P a fr st (seqQ P (.loop a) Q)) : AW P (.loop a) fr st Q := by
  obtain ⟨k, e, fr1, st1, h1, h2⟩ := h
  cases e with
  | normal =>
    obtain ⟨m, e2, fr2, st2, h3, h4⟩ := h2
    refine ⟨max k m + 1, e2, fr2, st2, ?_, h4⟩
    simp only [acode, aloop]
    rw [acode_mono (acall_mono k _ (by omega)) (by omega : k ≤ max k m + 1) a _ _ _ h1]
    simp only [acode] at h3
    exact aloop_mono (acode_mono (acall_mono m _ (by omega)) (by omega) a) m _ _ _ _ (by omega) h3
  | exit i =>
    refine ⟨k + 1, _, fr1, st1, ?_, h2⟩
    simp only [acode, aloop]
    rw [acode_mono (acall_mono k _ (by omega)) (by omega : k ≤ k + 1) a _ _ _ h1]
  | ret =>
    refine ⟨k + 1, _, fr1, st1, ?_, h2⟩
    simp only [acode, aloop]
    rw [acode_mono (acall_mono k _ (by omega)) (by omega : k ≤ k + 1) a _ _ _ h1]
/-- A loop by what holds at each round's beginning: I n, n falls. -/
theorem aw_rounds {a : Code} {Q : AExit → AFr → St → Prop} (I : Nat → AFr → St → Prop) (round : ∀ n fr st, I n fr st → AW P a fr st (fun e fr' st' => match e with | .normal => ∃ m, m < n ∧ I m fr' st' | e => Q e fr' st')) : ∀ (n : Nat) (fr : AFr) (st : St), I n fr st → AW P (.loop a) fr st Q := by
  intro n
  induction n using Nat.strongRecOn with
  | _ n ih =>
    intro fr st hI
    refine aw_loop ((round n fr st hI).mono fun e fr' st' h => ?_)
    cases e with
    | normal => obtain ⟨m, hm, h⟩ := h; exact ih m hm fr' st' h
    | exit i => exact h
    | ret => exact h
theorem aw_region {id : Nat} {ops : Array Oper} {draw sd : Bool} {fr : AFr} {st : St} {Q : AExit → AFr → St → Prop} (hsd : sdOf P ops draw = sd) (hd : (!draw || (commOK P sd ops && P.follows .mixedOrders)) = true ∨ ((commOKN P sd ops && P.follows .mixedOrders) = true ∧ GW st)) (h : AR P sd ops st.n 0 fr (st.bump ops.size) (Q .normal)) : AW P (.region id ops draw) fr st Q := by
  obtain ⟨k, fr1, st1, h1, h2⟩ := h
  refine ⟨k, _, fr1, st1, ?_, h2⟩
  simp only [acode, aregion, hsd]
  have : ¬ ¬ regOK P ops draw st := fun hn => hn fun hdr => by
    rw [hsd]
    rcases hd with hd | hd
    · rw [hdr] at hd
      exact .inl (by simpa using hd)
    · exact .inr hd
  rw [if_neg this]
  simp only [List.drop_zero] at h1
  rw [h1]
  rfl
theorem ar_nil {sd : Bool} {ops : Array Oper} {n0 i : Nat} {fr : AFr} {st : St} {Q : AFr → St → Prop} (hi : ops.size ≤ i) (h : Q fr st) : AR P sd ops n0 i fr st Q :=
  ⟨0, fr, st, by rw [List.drop_of_length_le (by simpa using hi)]; rfl, h⟩
theorem ar_step {sd : Bool} {ops : Array Oper} {n0 i : Nat} {o : Oper} {fr : AFr} {st : St} {Q : AFr → St → Prop} (ho : ops[i]? = some o) (h : ∃ k fr1 st1, astep P (acall P k) sd ops n0 i fr st = some (fr1, st1) ∧ AR P sd ops n0 (i + 1) fr1 st1 Q) : AR P sd ops n0 i fr st Q := by
  obtain ⟨k, fr1, st1, h1, m, fr2, st2, h2, h3⟩ := h
  have hlt : i < ops.size := (Array.getElem?_eq_some_iff.1 ho).1
  refine ⟨max k m, fr2, st2, ?_, h3⟩
  rw [List.drop_eq_getElem_cons (by simpa using hlt)]
  simp only [List.getElem_range, arun]
  rw [astep_mono (acall_mono k _ (Nat.le_max_left k m)) h1]
  exact arun_mono (acall_mono m _ (Nat.le_max_right k m)) _ _ _ _ h2
/-- An operation that is no call of a function. -/
theorem ar_op {sd : Bool} {ops : Array Oper} {n0 i : Nat} {o : Oper} {fr : AFr} {st : St} {Q : AFr → St → Prop} {y : AV} {st1 : St} (ho : ops[i]? = some o) (hw : awanted ops fr o = true) (h : aop P (acall P 0) (n0 + i) o fr st = some (y, st1)) (hs : y.solid = true) (hcl : isCall o.op = false) (hk : AR P sd ops n0 (i + 1) (aput fr o.dst y) st1 Q) : AR P sd ops n0 i fr st Q :=
  ar_step ho ⟨0, _, _, (wanted_step ho hw).2 ⟨y, h, ⟨hs, fun _ _ hc => by rw [hcl] at hc; cases hc⟩, rfl⟩, hk⟩
theorem ar_off {sd : Bool} {ops : Array Oper} {n0 i : Nat} {o : Oper} {fr : AFr} {st : St} {Q : AFr → St → Prop} (ho : ops[i]? = some o) (hw : awanted ops fr o = false) (hk : AR P sd ops n0 (i + 1) (aput fr o.dst (.pl undef)) st Q) : AR P sd ops n0 i fr st Q :=
  ar_step ho ⟨0, _, _, unwanted_step ho (by rw [hw]; simp), hk⟩
theorem ar_call {sd : Bool} {ops : Array Oper} {n0 i : Nat} {o : Oper} {fr : AFr} {st : St} {Q : AFr → St → Prop} {c : Call} {f : Operand} {g : FuncId} {caps : List AV} (ho : ops[i]? = some o) (hw : awanted ops fr o = true) (hop : o.op = .call c) (hc : c.callee = .value f) (hf : aeval fr f = .fn g caps)
    (h : ACalls P g (c.args.toList.map (aeval fr) ++ caps) st (fun r st1 => (r.solid = true ∧ (sd = true → must P ops i = true → Steady st st1)) ∧ AR P sd ops n0 (i + 1) (aput fr o.dst r) st1 Q)) : AR P sd ops n0 i fr st Q := by
  obtain ⟨k, r, st1, h1, h2, h3⟩ := h
  exact ar_step ho ⟨k, _, _, (wanted_step ho hw).2 ⟨r, by simp only [aop, hop, hc, hf]; exact h1, ⟨h2.1, fun hs hm _ => h2.2 hs hm⟩, rfl⟩, h3⟩
/-- A function's body. -/
theorem acalls_of {f : FuncId} {fn : Func} {c : Code} {xs : List AV} {st : St} {Q : AV → St → Prop} (hf : P.funcs[f]? = some fn) (hb : fn.body = some c) (hok : (codeOK fn.ntmps c && fn.name != "runtime.NumGoroutine") = true) (hx : xs.all AV.solid = true)
    (h : AW P c (fun t => xs.getD t (.pl undef)) st (fun e fr st' => (e = .normal ∨ e = .ret) ∧ ∃ r, aresults P st' fn fr = some r ∧ Q r st')) (ho : isOrac f = false := by rfl) : ACalls P f xs st Q := by
  obtain ⟨k, e, fr1, st1, h1, he, r, h2, h3⟩ := h
  refine ⟨k + 1, r, st1, ?_, h3⟩
  simp only [acall, ho, hf, afunc, hb, Bool.false_eq_true, if_false]
  rw [if_pos (by rw [hok, hx]; rfl), h1]
  rcases he with rfl | rfl
  · simp only [h2, Option.map_some]
  · simp only [h2, Option.map_some]
/-- A function that is told by a law of its own. -/
theorem acalls_orac {f : FuncId} {xs : List AV} {st : St} {Q : AV → St → Prop} (ho : isOrac f = true) (h : ∃ k r st', orac P (acall P k) f xs st = some (r, st') ∧ Q r st') : ACalls P f xs st Q := by
  obtain ⟨k, r, st', h1, h2⟩ := h
  exact ⟨k + 1, r, st', by simp only [acall, ho, if_true]; exact h1, h2⟩
end
end Go.Proofs.YtjpgpkkbmoehdaaDoor.Ra
