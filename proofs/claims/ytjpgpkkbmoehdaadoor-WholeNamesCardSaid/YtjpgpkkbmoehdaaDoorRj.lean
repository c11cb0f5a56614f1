/- A region: whatever order is drawn, it comes to the same. -/
import Derived.Test.YtjpgpkkbmoehdaaDoorRy
namespace Go.Proofs.YtjpgpkkbmoehdaaDoor.Ra
open Go Go.RowKit
set_option linter.unusedVariables false
set_option linter.unusedSimpArgs false
section
variable {P : Program} {call : ACall} {sd nw : Bool} {ops : Array Oper} {n0 : Nat}
theorem new_eff2 {P : Program} {o : Op} (h : newOnly P o = true) : eff P o = 2 := by
  cases o with
  | convert src dst x =>
    simp only [newOnly] at h
    split at h
    case h_2 => cases h
    rename_i e hs hd
    have hne : src ≠ dst := fun e => by rw [e, hd] at hs; cases hs
    simp only [eff, hd]
    rw [if_neg hne]
  | alloc e => simp [eff]
  | buildSlice t n ps => simp [eff]
  | makeSlice t a b => simp [eff]
  | _ => simp [newOnly] at h
theorem new_eff {P : Program} {o : Op} (h : newOnly P o = true) : eff P o ≠ 3 := by rw [new_eff2 h]; decide
theorem apart_sym {x y : Oper} (h : x.apart ops y = true) : (∀ d, x.dst = some d → d ∉ y.looksAt ops) ∧ (∀ d, x.dst = some d → y.dst ≠ some d) ∧ (∀ d, y.dst = some d → d ∉ x.looksAt ops) := Oper.apart_spec h
/-- Two neighbours that do not meet change places: j stood first, i comes first. -/
theorem astep_swap {i j : Nat} {oi oj : Oper} (hi : ops[i]? = some oi) (hj : ops[j]? = some oj) (hij : i ≠ j) (hap : oj.apart ops oi = true)
    (he : (eff P oi.op = 0 ∨ eff P oj.op = 0 ∨ (eff P oi.op ≤ 2 ∧ eff P oj.op ≤ 2) ∨ (sd = true ∧ ((isCall oi.op = true ∧ must P ops i = true ∧ eff P oj.op = 1) ∨ (isCall oj.op = true ∧ must P ops j = true ∧ eff P oi.op = 1)))) ∨ (nw = true ∧ newOnly P oi.op = true)) {fr fr1 fr2 : AFr} {st st1 st2 : St}
    (hfi : eff P oi.op = 2 → st.get (n0 + i) = none) (hfj : n0 + j ∉ areads P fr oi.op) (hlow : eff P oi.op = 1 → ∀ k ∈ areads P fr oi.op, k < st.n) (hq : nw = true → FrameOK call ∧ Frm (n0 + i) st)
    (h1 : astep P call sd ops n0 j fr st = some (fr1, st1)) (h2 : astep P call sd ops n0 i fr1 st1 = some (fr2, st2)) :
    ∃ fr3 st3, astep P call sd ops n0 i fr st = some (fr3, st3) ∧ astep P call sd ops n0 j fr3 st3 = some (fr2, st2) := by
  obtain ⟨a1, a2, a3⟩ := apart_sym hap
  have wj : ∀ v, awanted ops (aput fr oi.dst v) oj = awanted ops fr oj := fun v => awanted_put a3
  have wi : ∀ v, awanted ops (aput fr oj.dst v) oi = awanted ops fr oi := fun v => awanted_put a1
  have oj' : ∀ v s, aop P call (n0 + j) oj (aput fr oi.dst v) s = aop P call (n0 + j) oj fr s := fun v s => aop_put a3
  have oi' : ∀ v s, aop P call (n0 + i) oi (aput fr oj.dst v) s = aop P call (n0 + i) oi fr s := fun v s => aop_put a1
  have sw : ∀ v u, aput (aput fr oj.dst v) oi.dst u = aput (aput fr oi.dst u) oj.dst v := fun v u => aput_comm fr v u a2
  by_cases cj : awanted ops fr oj = true
  · obtain ⟨yj, hj1, sj, rfl⟩ := (wanted_step hj cj).1 h1
    by_cases ci : awanted ops fr oi = true
    · obtain ⟨yi, hi1, si, rfl⟩ := (wanted_step hi (by rw [wi]; exact ci)).1 h2
      rw [oi'] at hi1
      have fin : ∀ {sa : St}, aop P call (n0 + i) oi fr st = some (yi, sa) → aop P call (n0 + j) oj fr sa = some (yj, st2) → Fine sd (must P ops i) oi yi st sa → Fine sd (must P ops j) oj yj sa st2 → ∃ fr3 st3, astep P call sd ops n0 i fr st = some (fr3, st3) ∧ astep P call sd ops n0 j fr3 st3 = some (aput (aput fr oj.dst yj) oi.dst yi, st2) := by
        intro sa e1 e2 si sj
        exact ⟨aput fr oi.dst yi, sa, (wanted_step hi ci).2 ⟨yi, e1, si, rfl⟩, (wanted_step hj (by rw [wj]; exact cj)).2 ⟨yj, by rw [oj']; exact e2, sj, (sw yj yi).symm⟩⟩
      have fi : ∀ {s s' : St}, eff P oi.op ≠ 3 → Fine sd (must P ops i) oi yi s s' := fun h3 => ⟨si.1, fun _ _ hc => absurd (isCall_eff hc) h3⟩
      have fj : ∀ {s s' : St}, eff P oj.op ≠ 3 → Fine sd (must P ops j) oj yj s s' := fun h3 => ⟨sj.1, fun _ _ hc => absurd (isCall_eff hc) h3⟩
      by_cases hcase : nw = true ∧ newOnly P oi.op = true
      · obtain ⟨hnw, hno⟩ := hcase
        obtain ⟨hfr, hF⟩ := hq hnw
        obtain ⟨ob, hob, rfl, hall⟩ := aop_new hno hi1
        have hne : n0 + j ≠ n0 + i := by omega
        have h3i : eff P oi.op ≠ 3 := new_eff hno
        exact fin (hall st) ((aop_frame hfr hne hj1 hF).2 ob hob) (fi h3i) ⟨sj.1, fun a b c => (sj.2 a b c).put ob⟩
      replace he := he.resolve_right hcase
      by_cases e0i : eff P oi.op = 0
      · obtain ⟨f, hf, hf2, _, hf3⟩ := aop_light (by omega) hi1
        have hfid : f = fun s => s := by rcases hf with h | h; exact h; omega
        subst hfid
        subst hf2
        exact fin (hf3 st (fun h => by omega)) hj1 (fi (by omega)) sj
      · by_cases e0j : eff P oj.op = 0
        · obtain ⟨g, hg, hg2, _, hg3⟩ := aop_light (by omega) hj1
          have hgid : g = fun s => s := by rcases hg with h | h; exact h; omega
          subst hgid
          subst hg2
          exact fin hi1 (hg3 st2 (fun h => by omega)) si (fj (by omega))
        · rcases (he.resolve_left e0i).resolve_left e0j with he2 | ⟨hsd, ⟨hci, hmi, hej⟩ | ⟨hcj, hmj, hei⟩⟩
          · obtain ⟨f, hf, hf2, _, hf3⟩ := aop_light he2.1 hi1
            obtain ⟨g, hg, hg2, hglive, hg3⟩ := aop_light he2.2 hj1
            have e1 : aop P call (n0 + i) oi fr st = some (yi, f st) := hf3 st (fun h1 k hk => by
              rw [hg2]
              rcases hg with hg | ⟨_, ob, hg⟩
              · rw [hg]
              · rw [hg]
                have : k ≠ n0 + j := fun e => hfj (by rw [← e]; exact hk)
                simp [St.put, this])
            have e2 : aop P call (n0 + j) oj fr (f st) = some (yj, g (f st)) := hg3 (f st) (fun h1 k hk => by
              rcases hf with hf | ⟨h2e, ob, hf⟩
              · rw [hf]
              · rw [hf]
                have : k ≠ n0 + i := fun e => hglive h1 k hk (by rw [e]; exact hfi h2e)
                simp [St.put, this])
            have e3 : g (f st) = st2 := by
              rw [hf2, hg2]
              rcases hf with hf | ⟨_, ob, hf⟩
              · rw [hf]
              · rcases hg with hg | ⟨_, ob', hg⟩
                · rw [hg]
                · rw [hf, hg]
                  exact put_comm_st st ob ob' (by omega)
            rw [e3] at e2
            exact fin e1 e2 (fi (by omega)) (fj (by omega))
          · obtain ⟨g, hg, hg2, hglive, hg3⟩ := aop_light (by omega) hj1
            have hgid : g = fun s => s := by rcases hg with h | h; exact h; omega
            subst hgid
            subst hg2
            have hst := si.2 hsd hmi hci
            exact fin hi1 (hg3 st2 (fun h1 k hk => by
              have hl := hglive h1 k hk
              cases hk2 : st1.get k with
              | none => exact absurd hk2 hl
              | some ob => exact hst.get k ob hk2)) si (fj (by omega))
          · obtain ⟨f, hf, hf2, _, hf3⟩ := aop_light (by omega) hi1
            have hfid : f = fun s => s := by rcases hf with h | h; exact h; omega
            subst hfid
            subst hf2
            have hst := sj.2 hsd hmj hcj
            exact fin (hf3 st (fun _ k hk => (hst.old k (hlow hei k hk)).symm)) hj1 (fi (by omega)) sj
    · have h3 := unwanted_step (P := P) (call := call) (sd := sd) (n0 := n0) (fr := aput fr oj.dst yj) (st := st1) hi (by rw [wi]; exact ci)
      rw [h3] at h2
      simp only [Option.some.injEq, Prod.mk.injEq] at h2
      obtain ⟨rfl, rfl⟩ := h2
      exact ⟨aput fr oi.dst (.pl undef), st, unwanted_step hi ci, (wanted_step hj (by rw [wj]; exact cj)).2 ⟨yj, by rw [oj']; exact hj1, sj, (sw yj _).symm⟩⟩
  · have h3 := unwanted_step (P := P) (call := call) (sd := sd) (n0 := n0) (st := st) hj cj
    rw [h3] at h1
    simp only [Option.some.injEq, Prod.mk.injEq] at h1
    obtain ⟨rfl, rfl⟩ := h1
    by_cases ci : awanted ops fr oi = true
    · obtain ⟨yi, hi1, si, rfl⟩ := (wanted_step hi (by rw [wi]; exact ci)).1 h2
      rw [oi'] at hi1
      refine ⟨aput fr oi.dst yi, st2, (wanted_step hi ci).2 ⟨yi, hi1, si, rfl⟩, ?_⟩
      rw [unwanted_step hj (by rw [wj]; exact cj), sw]
    · have h4 := unwanted_step (P := P) (call := call) (sd := sd) (n0 := n0) (fr := aput fr oj.dst (.pl undef)) (st := st) hi (by rw [wi]; exact ci)
      rw [h4] at h2
      simp only [Option.some.injEq, Prod.mk.injEq] at h2
      obtain ⟨rfl, rfl⟩ := h2
      refine ⟨aput fr oi.dst (.pl undef), st, unwanted_step hi ci, ?_⟩
      rw [unwanted_step hj (by rw [wj]; exact cj), sw]
/-- What a step of another operation leaves of the names to come. -/
theorem astep_keeps {i j : Nat} {oj : Oper} (hj : ops[j]? = some oj) (hij : i ≠ j) (he : eff P oj.op ≤ 2) {fr fr1 : AFr} {st st1 : St} (h : astep P call sd ops n0 j fr st = some (fr1, st1)) : st1.get (n0 + i) = st.get (n0 + i) := by
  by_cases cj : awanted ops fr oj = true
  · obtain ⟨y, h1, _, _⟩ := (wanted_step hj cj).1 h
    obtain ⟨f, hf, hf2, _, _⟩ := aop_light he h1
    rw [hf2]
    rcases hf with hf | ⟨_, ob, hf⟩
    · rw [hf]
    · rw [hf]
      have : n0 + i ≠ n0 + j := by omega
      show (if n0 + i = n0 + j then some ob else st.get (n0 + i)) = _
      rw [if_neg this]
  · rw [unwanted_step hj cj] at h
    simp only [Option.some.injEq, Prod.mk.injEq] at h
    rw [← h.2]
theorem astep_n {j : Nat} {oj : Oper} (hj : ops[j]? = some oj) (he : eff P oj.op ≤ 2 ∨ (sd = true ∧ must P ops j = true ∧ isCall oj.op = true)) {fr fr1 : AFr} {st st1 : St} (h : astep P call sd ops n0 j fr st = some (fr1, st1)) : st.n ≤ st1.n := by
  by_cases cj : awanted ops fr oj = true
  · obtain ⟨y, h1, hf, _⟩ := (wanted_step hj cj).1 h
    rcases he with he | ⟨hs, hm, hc⟩
    · obtain ⟨f, hf, hf2, _, _⟩ := aop_light he h1
      rw [hf2]
      rcases hf with hf | ⟨_, ob, hf⟩ <;> rw [hf] <;> exact Nat.le_refl _
    · exact (hf.2 hs hm hc).n
  · rw [unwanted_step hj cj] at h
    simp only [Option.some.injEq, Prod.mk.injEq] at h
    rw [← h.2]; exact Nat.le_refl _
theorem astep_areads {j : Nat} {oi oj : Oper} (hj : ops[j]? = some oj) (hap : oj.apart ops oi = true) {fr fr1 : AFr} {st st1 : St} (h : astep P call sd ops n0 j fr st = some (fr1, st1)) : areads P fr1 oi.op = areads P fr oi.op := by
  by_cases cj : awanted ops fr oj = true
  · obtain ⟨y, _, _, rfl⟩ := (wanted_step hj cj).1 h
    exact areads_put (apart_sym hap).1
  · rw [unwanted_step hj cj] at h
    simp only [Option.some.injEq, Prod.mk.injEq] at h
    rw [← h.1]
    exact areads_put (apart_sym hap).1
def meets (P : Program) (sd nw : Bool) (ops : Array Oper) (j i : Nat) : Prop := ∃ oj oi, ops[j]? = some oj ∧ ops[i]? = some oi ∧ oj.apart ops oi = true ∧ ((eff P oi.op = 0 ∨ eff P oj.op = 0 ∨ (eff P oi.op ≤ 2 ∧ eff P oj.op ≤ 2) ∨ (sd = true ∧ ((isCall oi.op = true ∧ must P ops i = true ∧ eff P oj.op = 1) ∨ (isCall oj.op = true ∧ must P ops j = true ∧ eff P oi.op = 1)))) ∨ (nw = true ∧ newOnly P oi.op = true))
/-- An operation that meets none of those ahead of it may come first. -/
theorem arun_pull {i : Nat} {oi : Oper} (hi : ops[i]? = some oi) : ∀ (p q : List Nat) (fr : AFr) (st : St) (res : AFr × St), (∀ j ∈ p, j ≠ i ∧ meets P sd nw ops j i) → (∀ j ∈ p, n0 + j ∉ areads P fr oi.op) → (eff P oi.op = 2 → st.get (n0 + i) = none) → (eff P oi.op = 1 → ∀ k ∈ areads P fr oi.op, k < st.n) → (nw = true → FrameOK call ∧ Frm (n0 + i) st) →
    arun P call sd ops n0 (p ++ i :: q) fr st = some res → arun P call sd ops n0 (i :: (p ++ q)) fr st = some res
  | [], q, fr, st, res, _, _, _, _, _, h => h
  | j :: p, q, fr, st, res, hp, hr, hf, hlow, hq, h => by
    obtain ⟨hji, oj, oi', hj, hi', hap, he⟩ := hp j (by simp)
    rw [hi] at hi'
    cases hi'
    simp only [List.cons_append, arun] at h
    obtain ⟨⟨fr1, st1⟩, h1, h2⟩ := Option.bind_eq_some_iff.1 h
    have hq1 : nw = true → FrameOK call ∧ Frm (n0 + i) st1 := fun hnw => ⟨(hq hnw).1, (astep_frame (hq hnw).1 (by omega) h1 (hq hnw).2).1⟩
    have hf1 : eff P oi.op = 2 → st1.get (n0 + i) = none := by
      intro e2
      by_cases hnw : nw = true
      · exact (hq1 hnw).2.dead
      replace he := he.resolve_right (fun h => hnw h.1)
      have e1 : eff P oj.op ≤ 2 := by
        rcases he with he | he | he | ⟨_, ⟨he, _, _⟩ | ⟨_, _, he⟩⟩
        · omega
        · omega
        · exact he.2
        · have := isCall_eff (P := P) he; omega
        · omega
      rw [astep_keeps hj (Ne.symm hji) e1 h1]
      exact hf e2
    have hlow1 : eff P oi.op = 1 → ∀ k ∈ areads P fr1 oi.op, k < st1.n := by
      intro e1 k hk
      rw [astep_areads hj hap h1] at hk
      refine Nat.lt_of_lt_of_le (hlow e1 k hk) (astep_n hj ?_ h1)
      replace he := he.resolve_right (fun h => by have := new_eff2 h.2; omega)
      rcases he with he | he | he | ⟨hs, ⟨he, _, _⟩ | ⟨he, hm, _⟩⟩
      · omega
      · exact .inl (by omega)
      · exact .inl he.2
      · have := isCall_eff (P := P) he; omega
      · exact .inr ⟨hs, hm, he⟩
    have h3 := arun_pull hi p q fr1 st1 res (fun k hk => hp k (by simp [hk])) (fun k hk => by rw [astep_areads hj hap h1]; exact hr k (by simp [hk])) hf1 hlow1 hq1 h2
    simp only [arun] at h3
    obtain ⟨⟨fr2, st2⟩, h4, h5⟩ := Option.bind_eq_some_iff.1 h3
    obtain ⟨fr3, st3, h6, h7⟩ := astep_swap hi hj (Ne.symm hji) hap he hf (hr j (by simp)) hlow hq h1 h4
    simp only [List.cons_append, arun, h6, Option.bind_some, h7]
    exact h5
end
section
variable {P : Program} {w0 : World} {call : ACall} {sd nw : Bool}
/-- A call that is sound. -/
def CallOK (P : Program) (w0 : World) (call : ACall) : Prop :=
  ∀ f xs st r st', call f xs st = some (r, st') → (∃ fn, P.funcs[f]? = some fn ∧ (fn.name == "runtime.NumGoroutine") = false ∧ fn.body.isNone = false) ∧ st.n ≤ st'.n ∧
    ∀ σ w vs, Sim P w0 σ st w → CR σ xs vs → Calls P f vs.toArray w (fun e w' => ∃ v σ', e = .returned v ∧ Sub σ σ' ∧ (∀ i, i < st.n → σ i = none → σ' i = none) ∧ Sim P w0 σ' st' w' ∧ VR σ' r v)
/-- One operation. -/
theorem aop_wp (hc : CallOK P w0 call) {σ : Ren} {st st' : St} {w : World} (h : Sim P w0 σ st w) {id : Nat} (hid : σ id = none) (hn : id < st.n) {fr : AFr} {a : Act} (hF : FR σ fr a) {o : Oper} {y : AV} (ha : aop P call id o fr st = some (y, st'))
    {next : Act → World → Prop} {Q : Exit → Act → World → Prop} (hk : ∀ v w' σ', Sub σ σ' → (∀ i, i ≠ id → i < st.n → σ i = none → σ' i = none) → st.n ≤ st'.n → Sim P w0 σ' st' w' → VR σ' y v → next (a.put o.dst v) w') : o.wp P a w next Q := by
  by_cases hcall : ∃ c f, o.op = .call c ∧ c.callee = .value f
  · obtain ⟨c, f, ho, hf⟩ := hcall
    unfold aop at ha
    simp only [ho, hf] at ha
    split at ha
    case h_2 => cases ha
    rename_i g caps hg
    obtain ⟨⟨fn, h1, h2, h3⟩, hle, h4⟩ := hc g _ st y st' ha
    have he := hF.eval f
    rw [hg] at he
    generalize hv : a.eval f = fv at he
    cases he with
    | fn hlen hh =>
    rename_i vs
    have hcr : CR σ (c.args.toList.map (aeval fr) ++ caps) (c.args.toList.map a.eval ++ vs.toList) := (CR.map hF c.args.toList).append ⟨by simpa using hlen, fun j x v hx hv => hh j x v hx (by simpa using hv)⟩
    have h5 := h4 σ w _ h hcr
    have hrun : (execOp a.eval o).run P w = .ok (.enter g (c.args.map a.eval ++ vs)) w := by
      simp only [execOp, ho, resolve, hf, hv, Deferred.ofValue, Sem.run_bind, Sem.run_pure, Result.andThen_ok, invoke, callFunc, run_program, h1, h2, Bool.false_eq_true, if_false, h3, Array.empty_append]
    unfold Oper.wp
    rw [hrun]
    have e : (c.args.toList.map a.eval ++ vs.toList).toArray = c.args.map a.eval ++ vs := by
      apply Array.toList_inj.1
      simp
    rw [e] at h5
    refine Calls.mono h5 fun e' w' he' => ?_
    obtain ⟨v, σ', rfl, hs, hnew, hS, hV⟩ := he'
    exact hk v w' σ' hs (fun i _ hi hn => hnew i hi hn) hle hS hV
  · obtain ⟨r, v, w', σ', hr, hrr, hN, hS, hV, hnn⟩ := aop_run h hid hn hF (fun c f ho hf => hcall ⟨c, f, ho, hf⟩) ha
    unfold Oper.wp
    rw [hr]
    have := hk v w' σ' hN.sub (fun i hi _ hi0 => hN.only i hi hi0) (by omega) hS hV
    rcases hrr with rfl | ⟨rfl, rfl⟩
    · exact this
    · exact this
theorem awanted_eq {ops : Array Oper} {σ : Ren} {fr : AFr} {a : Act} (hF : FR σ fr a) (o : Oper) : Region.wanted o (yielded ops a.tmps) = awanted ops fr o := by
  unfold Region.wanted awanted
  cases hg : o.guard with
  | none => rfl
  | some gw =>
    obtain ⟨j, want⟩ := gw
    simp only
    unfold yielded
    cases hd : (ops[j]?).bind (·.dst) with
    | none => rfl
    | some d =>
      simp only [Option.bind_some]
      obtain ⟨hv, hsol⟩ := hF d
      cases ht : a.tmps[d]? with
      | none =>
        have e : a.tmps.getD d undef = undef := by simp [ht]
        rw [e] at hv
        generalize fr d = x at hv hsol
        cases x with
        | pl u =>
          cases hv
          rfl
        | _ => rfl
      | some u =>
        have e : a.tmps.getD d undef = u := by simp [ht]
        rw [e] at hv
        generalize fr d = x at hv hsol
        cases hv with
        | pl u => cases u <;> simp <;> rfl
        | top u => cases hsol
        | _ => rfl
/-- Where a region stands: what is still to do, and that it comes to its end. -/
structure Mid (P : Program) (w0 : World) (call : ACall) (sd nw : Bool) (ops : Array Oper) (n0 : Nat) (σ0 σ : Ren) (todo : List Nat) (res : AFr × St) (fr : AFr) (st : St) (a : Act) (w : World) (size : Nat) : Prop where
  sim : Sim P w0 σ st w
  frr : FR σ fr a
  free : ∀ j ∈ todo, σ (n0 + j) = none
  room : n0 + ops.size ≤ st.n
  run : arun P call sd ops n0 todo fr st = some res
  sub : Sub σ0 σ
  old : ∀ i, i < n0 → σ0 i = none → σ i = none
  defers : a.defers = []
  size : a.tmps.size = size
  frm : nw = true → FrameOK call ∧ ∀ j ∈ todo, Frm (n0 + j) st
theorem Mid.step (hc : CallOK P w0 call) {ops : Array Oper} {n0 : Nat} {σ0 σ : Ren} {i : Nat} {todo : List Nat} {res : AFr × St} {fr : AFr} {st : St} {a : Act} {w : World} {size : Nat} (hput : putsOK size ops = true) (h : Mid P w0 call sd nw ops n0 σ0 σ (i :: todo) res fr st a w size) (hnd : i ∉ todo) (hlt : ∀ j ∈ i :: todo, j < ops.size)
    {Q : Exit → Act → World → Prop} {K : Act → World → Prop} (hk : ∀ σ' fr' st' a' w', Mid P w0 call sd nw ops n0 σ0 σ' todo res fr' st' a' w' size → K a' w') : wpOp P ops Q i K a w := by
  have hrun := h.run
  simp only [arun] at hrun
  obtain ⟨⟨fr1, st1⟩, h1, h2⟩ := Option.bind_eq_some_iff.1 hrun
  have hfrm1 : nw = true → FrameOK call ∧ ∀ j ∈ todo, Frm (n0 + j) st1 := fun hnw => ⟨(h.frm hnw).1, fun j hj => (astep_frame (h.frm hnw).1 (fun e => hnd (by
    obtain rfl : i = j := by omega
    exact hj)) h1 ((h.frm hnw).2 j (by simp [hj]))).1⟩
  unfold wpOp
  cases ho : ops[i]? with
  | none => unfold astep at h1; simp only [ho] at h1; cases h1
  | some o =>
    simp only
    have hd : ∀ t, o.dst = some t → t < a.tmps.size := by
      intro t ht
      have := Array.all_eq_true_iff_forall_mem.1 hput o (Array.mem_of_getElem? ho)
      rw [ht] at this
      rw [h.size]
      simpa using this
    rw [awanted_eq h.frr o]
    by_cases cw : awanted ops fr o = true
    · obtain ⟨y, h3, hys, rfl⟩ := (wanted_step ho cw).1 h1
      simp only [cw, if_true]
      have hi := hlt i (by simp)
      have hroom := h.room
      refine .inl (aop_wp hc h.sim (h.free i (by simp)) (by omega) h.frr h3 fun v w' σ' hs hnew hle hS hV => hk σ' (aput fr o.dst y) st1 (a.put o.dst v) w' ?_)
      have hne : ∀ j ∈ todo, n0 + j ≠ n0 + i := fun j hj e => hnd (by
        obtain rfl : j = i := by omega
        exact hj)
      refine ⟨hS, (h.frr.sub hs).put hV hys.1 hd, fun j hj => hnew _ (hne j hj) (by have := hlt j (by simp [hj]); omega) (h.free j (by simp [hj])), by omega, h2, h.sub.trans hs, fun k hk hk0 => hnew k (by omega) (by omega) (h.old k hk hk0), ?_, ?_, ?_⟩
      · cases hdst : o.dst <;> simp [Act.put, h.defers]
      · cases hdst : o.dst <;> simp [Act.put, h.size]
      · exact hfrm1
    · rw [unwanted_step ho cw] at h1
      simp only [Option.some.injEq, Prod.mk.injEq] at h1
      obtain ⟨rfl, rfl⟩ := h1
      have cw2 : awanted ops fr o = false := by simpa using cw
      simp only [cw2, Bool.false_eq_true, if_false]
      refine hk σ (aput fr o.dst (.pl undef)) st (a.put o.dst undef) w ⟨h.sim, h.frr.put (.pl _) rfl hd, fun j hj => h.free j (by simp [hj]), h.room, h2, h.sub, h.old, ?_, ?_, hfrm1⟩
      · cases hdst : o.dst <;> simp [Act.put, h.defers]
      · cases hdst : o.dst <;> simp [Act.put, h.size]
theorem Mid.straight (hc : CallOK P w0 call) {ops : Array Oper} {n0 : Nat} {σ0 : Ren} {res : AFr × St} {size : Nat} (hput : putsOK size ops = true) {Q : Exit → Act → World → Prop}
    (hQ : ∀ σ a w, Mid P w0 call sd nw ops n0 σ0 σ [] res res.1 res.2 a w size → Q .normal a w) : ∀ (todo : List Nat) (σ : Ren) (fr : AFr) (st : St) (a : Act) (w : World), todo.Nodup → (∀ j ∈ todo, j < ops.size) → Mid P w0 call sd nw ops n0 σ0 σ todo res fr st a w size → wpOps P ops Q todo a w
  | [], σ, fr, st, a, w, _, _, h => by
    have e : (fr, st) = res := by have := h.run; simpa [arun] using this
    subst e
    exact hQ σ a w h
  | i :: todo, σ, fr, st, a, w, hnd, hlt, h => by
    rw [wpOps_cons]
    have h2 := List.nodup_cons.1 hnd
    exact h.step hc hput h2.1 hlt fun σ' fr' st' a' w' hm => Mid.straight hc hput hQ todo σ' fr' st' a' w' h2.2 (fun j hj => hlt j (by simp [hj])) hm
theorem commX_or {ops : Array Oper} (h : commX P sd nw ops = true) : commOK P sd ops = true ∨ (nw = true ∧ commOKN P sd ops = true) := by
  unfold commX at h
  cases nw with
  | true => exact .inr ⟨rfl, h⟩
  | false => exact .inl h
theorem commOK_edge {ops : Array Oper} (h : commX P sd nw ops = true) {i : Nat} {o : Oper} (hi : ops[i]? = some o) : ∀ e ∈ o.after, Region.binds .any e = true → e.on < i := by
  have hlt : i < ops.size := (Array.getElem?_eq_some_iff.1 hi).1
  intro e he hb
  rcases commX_or h with h | ⟨_, h⟩
  · have h1 := List.all_eq_true.1 h i (List.mem_range.2 hlt)
    simp only [Bool.and_eq_true, hi, Option.map_some, Option.getD_some] at h1
    have := Array.all_eq_true_iff_forall_mem.1 h1.1 e he
    simpa [hb] using this
  · have h1 := List.all_eq_true.1 h i (List.mem_range.2 hlt)
    simp only [Bool.and_eq_true, hi, Option.map_some, Option.getD_some] at h1
    have := Array.all_eq_true_iff_forall_mem.1 h1.1 e he
    simpa [hb] using this
theorem pair_of {ops : Array Oper} {i j : Nat} {oi : Oper} (hi : ops[i]? = some oi) (hno : ∀ k, ahead ops k j i = false) (h2 : commPair P sd ops j i = true) : meets P sd nw ops j i := by
  unfold commPair at h2
  split at h2
  · rename_i oj oi' hj hi'
    rw [hi] at hi'
    cases hi'
    simp only [Bool.or_eq_true, Bool.and_eq_true, beq_iff_eq, decide_eq_true_eq] at h2
    rcases h2 with h2 | ⟨h2, h3⟩
    · rw [hno] at h2; cases h2
    · refine ⟨oj, oi, hj, hi, h2, .inl ?_⟩
      rcases h3 with ((h3 | h3) | h3) | h3
      · exact .inl h3
      · exact .inr (.inl h3)
      · exact .inr (.inr (.inl h3))
      · exact .inr (.inr (.inr h3))
  · cases h2
theorem commOK_pair {ops : Array Oper} (h : commX P sd nw ops = true) {i j : Nat} {oi : Oper} (hi : ops[i]? = some oi) (hji : j < i) (hno : ∀ k, ahead ops k j i = false) : meets P sd nw ops j i := by
  have hlt : i < ops.size := (Array.getElem?_eq_some_iff.1 hi).1
  rcases commX_or h with h | ⟨hnw, h⟩
  · have h1 := List.all_eq_true.1 h i (List.mem_range.2 hlt)
    simp only [Bool.and_eq_true] at h1
    exact pair_of hi hno (List.all_eq_true.1 h1.2 j (List.mem_range.2 hji))
  · have h1 := List.all_eq_true.1 h i (List.mem_range.2 hlt)
    simp only [Bool.and_eq_true] at h1
    have h2 := List.all_eq_true.1 h1.2 j (List.mem_range.2 hji)
    unfold commPairN at h2
    rw [Bool.or_eq_true] at h2
    rcases h2 with h2 | h2
    · exact pair_of hi hno h2
    · split at h2
      · rename_i oj oi' hj hi'
        rw [hi] at hi'
        cases hi'
        rw [Bool.and_eq_true] at h2
        exact ⟨oj, oi, hj, hi, h2.1, .inr ⟨hnw, h2.2⟩⟩
      · cases h2
/-- What is drawn has all that is always drawn ahead of it behind it. -/
def Closed (ops : Array Oper) (listed : Array Bool) : Prop := ∀ (i : Nat) (o : Oper), ops[i]? = some o → listed.getD i false = true → ∀ e ∈ o.after, Region.binds .any e = true → listed.getD e.on false = true
theorem Closed.ahead {ops : Array Oper} {listed : Array Bool} (h : Closed ops listed) {j : Nat} (hj : listed.getD j true = false) : ∀ (k i : Nat) (o : Oper), ops[i]? = some o → (∀ e ∈ o.after, Region.binds .any e = true → listed.getD e.on false = true) → Ra.ahead ops k j i = false
  | 0, i, o, _, _ => rfl
  | k + 1, i, o, ho, ha => by
    simp only [Ra.ahead, ho]
    rw [Bool.eq_false_iff]
    intro hc
    obtain ⟨e, he, hb⟩ := Array.any_eq_true'.1 hc
    simp only [Bool.and_eq_true, Bool.or_eq_true, beq_iff_eq] at hb
    have hl := ha e he hb.1
    rcases hb.2 with hb2 | hb2
    · rw [hb2] at hl
      by_cases hb3 : j < listed.size
      · simp [hb3] at hj hl; rw [hj] at hl; cases hl
      · simp [hb3] at hl
    · cases hoe : ops[e.on]? with
      | none => cases k <;> simp [Ra.ahead, hoe] at hb2
      | some oe =>
        rw [Closed.ahead h hj k e.on oe hoe (h e.on oe hoe hl)] at hb2
        cases hb2
theorem Mid.drawn (hc : CallOK P w0 call) {ops : Array Oper} (hok : commX P sd nw ops = true) {n0 : Nat} {σ0 : Ren} {res : AFr × St} {size : Nat} (hput : putsOK size ops = true) {Q : Exit → Act → World → Prop}
    (hQ : ∀ σ a w, Mid P w0 call sd nw ops n0 σ0 σ [] res res.1 res.2 a w size → Q .normal a w) : ∀ (fuel : Nat) (todo : List Nat) (listed : Array Bool) (σ : Ren) (fr : AFr) (st : St) (a : Act) (w : World), todo.length = fuel → todo.Pairwise (· < ·) → listed.size = ops.size → (∀ j, j ∈ todo ↔ (j < ops.size ∧ listed.getD j true = false)) → Closed ops listed → Mid P w0 call sd nw ops n0 σ0 σ todo res fr st a w size → wpAny P .any ops Q fuel listed a w
  | fuel, todo, listed, σ, fr, st, a, w, hfl, hsort, hsz, hmem, hclosed, h => by
    have hdone : todo = [] → Q .normal a w := by
      intro e
      subst e
      have e : (fr, st) = res := by have := h.run; simpa [arun] using this
      subst e
      exact hQ σ a w h
    have hready : ∀ j, j ∈ Region.ready .any ops listed → j ∈ todo := fun j hj => by
      obtain ⟨h1, o, ho, _⟩ := mem_ready.1 hj
      exact (hmem j).2 ⟨(Array.getElem?_eq_some_iff.1 ho).1, h1⟩
    have hnil : Region.ready .any ops listed = [] → todo = [] := by
      intro he
      cases htodo : todo with
      | nil => rfl
      | cons i r =>
        exfalso
        have hi := (hmem i).1 (by simp [htodo])
        have hir : i ∈ Region.ready .any ops listed := by
          refine mem_ready.2 ⟨hi.2, ops[i], Array.getElem?_eq_getElem hi.1, fun e he' hb => ?_⟩
          have hlt := commOK_edge hok (Array.getElem?_eq_getElem hi.1) e he' hb
          by_cases hl : listed.getD e.on true = false
          · have hin := (hmem e.on).2 ⟨by omega, hl⟩
            rw [htodo] at hin hsort
            rcases List.mem_cons.1 hin with h2 | h2
            · omega
            · have := (List.pairwise_cons.1 hsort).1 e.on h2
              omega
          · have hb2 : e.on < listed.size := by omega
            simp [hb2] at hl ⊢
            exact hl
        rw [he] at hir
        cases hir
    cases fuel with
    | zero =>
      have ht : todo = [] := List.eq_nil_of_length_eq_zero hfl
      refine ⟨?_, hdone ht⟩
      cases hr : Region.ready .any ops listed with
      | nil => rfl
      | cons x xs =>
        have := hready x (by rw [hr]; simp)
        rw [ht] at this
        cases this
    | succ fuel =>
      refine ⟨fun he => hdone (hnil he), fun i hi => ?_⟩
      have hit := hready i hi
      obtain ⟨p, q, rfl⟩ := List.append_of_mem hit
      obtain ⟨hun, oi, hoi, hall⟩ := mem_ready.1 hi
      have hpw := List.pairwise_append.1 hsort
      have hpi : ∀ j ∈ p, j < i := fun j hj => hpw.2.2 j hj i (by simp)
      have hqi : ∀ j ∈ q, i < j := fun j hj => (List.pairwise_cons.1 hpw.2.1).1 j hj
      have hmeet : ∀ j ∈ p, j ≠ i ∧ meets P sd nw ops j i := fun j hj => ⟨by have := hpi j hj; omega, commOK_pair hok hoi (hpi j hj) fun k => hclosed.ahead ((hmem j).1 (by simp [hj])).2 k i oi hoi hall⟩
      have hreads : ∀ j ∈ p, n0 + j ∉ areads P fr oi.op := by
        intro j hj hmem2
        have hfree := h.free j (by simp [hj])
        unfold areads at hmem2
        split at hmem2
        · rename_i t x hop
          split at hmem2
          · rename_i k off hx
            simp only [List.mem_singleton] at hmem2
            have hv := h.frr.eval x
            rw [hx] at hv
            generalize a.eval x = xv at hv
            cases hv with
            | ptr hk => rw [← hmem2, hfree] at hk; cases hk
          · split at hmem2
            · rename_i hg
              simp only [List.mem_singleton] at hmem2
              have hk := h.sim.init _ hg
              rw [← hmem2, hfree] at hk
              cases hk
            · cases hmem2
          · cases hmem2
        · rename_i t1 t2 x hop
          split at hmem2
          · rename_i k off len es hx
            split at hmem2
            · cases hmem2
            simp only [List.mem_singleton] at hmem2
            have hv := h.frr.eval x
            rw [hx] at hv
            generalize a.eval x = xv at hv
            cases hv with
            | sl hk _ _ _ _ => rw [← hmem2, hfree] at hk; cases hk
          · cases hmem2
        · rename_i cc hop
          split at hmem2
          · rename_i q0 x hx0
            split at hmem2
            · rename_i k off len es hx
              split at hmem2
              · cases hmem2
              simp only [List.mem_singleton] at hmem2
              have hv := h.frr.eval x
              rw [hx] at hv
              generalize a.eval x = xv at hv
              cases hv with
              | sl hk _ _ _ _ => rw [← hmem2, hfree] at hk; cases hk
            · cases hmem2
          · cases hmem2
        · cases hmem2
      have hlow : ∀ k ∈ areads P fr oi.op, k < st.n := by
        intro k0 hmem2
        refine Nat.lt_of_not_le fun hge => ?_
        have hfree := h.sim.dom k0 hge
        unfold areads at hmem2
        split at hmem2
        · rename_i t x hop
          split at hmem2
          · rename_i k off hx
            simp only [List.mem_singleton] at hmem2
            have hv := h.frr.eval x
            rw [hx] at hv
            generalize a.eval x = xv at hv
            cases hv with
            | ptr hk => rw [← hmem2, hfree] at hk; cases hk
          · split at hmem2
            · rename_i hg
              simp only [List.mem_singleton] at hmem2
              have hk := h.sim.init _ hg
              rw [← hmem2, hfree] at hk
              cases hk
            · cases hmem2
          · cases hmem2
        · rename_i t1 t2 x hop
          split at hmem2
          · rename_i k off len es hx
            split at hmem2
            · cases hmem2
            simp only [List.mem_singleton] at hmem2
            have hv := h.frr.eval x
            rw [hx] at hv
            generalize a.eval x = xv at hv
            cases hv with
            | sl hk _ _ _ _ => rw [← hmem2, hfree] at hk; cases hk
          · cases hmem2
        · rename_i cc hop
          split at hmem2
          · rename_i q0 x hx0
            split at hmem2
            · rename_i k off len es hx
              split at hmem2
              · cases hmem2
              simp only [List.mem_singleton] at hmem2
              have hv := h.frr.eval x
              rw [hx] at hv
              generalize a.eval x = xv at hv
              cases hv with
              | sl hk _ _ _ _ => rw [← hmem2, hfree] at hk; cases hk
            · cases hmem2
          · cases hmem2
        · cases hmem2
      have hnone : st.get (n0 + i) = none := by
        have hfree := h.free i (by simp)
        cases hg : st.get (n0 + i) with
        | none => rfl
        | some o =>
          obtain ⟨l, hl, _⟩ := h.sim.obj _ o hg
          rw [hfree] at hl
          cases hl
      have hrun := arun_pull hoi p q fr st res hmeet hreads (fun _ => hnone) (fun _ => hlow) (fun hnw => ⟨(h.frm hnw).1, (h.frm hnw).2 i (by simp)⟩) h.run
      have hM : Mid P w0 call sd nw ops n0 σ0 σ (i :: (p ++ q)) res fr st a w size := ⟨h.sim, h.frr, fun j hj => h.free j (by
        rcases List.mem_cons.1 hj with rfl | hj
        · simp
        · rcases List.mem_append.1 hj with hj | hj <;> simp [hj]), h.room, hrun, h.sub, h.old, h.defers, h.size, fun hnw => ⟨(h.frm hnw).1, fun j hj => (h.frm hnw).2 j (by
        rcases List.mem_cons.1 hj with rfl | hj
        · simp
        · rcases List.mem_append.1 hj with hj | hj <;> simp [hj])⟩⟩
      have hnotin : i ∉ p ++ q := fun hin => by
        rcases List.mem_append.1 hin with hin | hin
        · have := hpi i hin; omega
        · have := hqi i hin; omega
      have hi_lt : i < ops.size := (Array.getElem?_eq_some_iff.1 hoi).1
      refine hM.step hc hput hnotin (fun j hj => ?_) fun σ' fr' st' a' w' hm => Mid.drawn hc hok hput hQ fuel (p ++ q) (listed.setIfInBounds i true) σ' fr' st' a' w' ?_ ?_ ?_ ?_ ?_ hm
      · rcases List.mem_cons.1 hj with rfl | hj
        · exact hi_lt
        · refine ((hmem j).1 ?_).1
          rcases List.mem_append.1 hj with hj | hj <;> simp [hj]
      · simp at hfl ⊢; omega
      · exact List.pairwise_append.2 ⟨hpw.1, (List.pairwise_cons.1 hpw.2.1).2, fun x hx y hy => hpw.2.2 x hx y (by simp [hy])⟩
      · simpa using hsz
      · intro j
        constructor
        · intro hj
          have hne : i ≠ j := fun e => hnotin (by rw [e]; exact hj)
          have := (hmem j).1 (by rcases List.mem_append.1 hj with hj | hj <;> simp [hj])
          exact ⟨this.1, by rw [getD_set_ne true hne]; exact this.2⟩
        · rintro ⟨h1, h2⟩
          by_cases hne : i = j
          · subst hne
            have hb2 : i < listed.size := by omega
            simp [hb2] at h2
          · rw [getD_set_ne true hne] at h2
            have := (hmem j).2 ⟨h1, h2⟩
            rcases List.mem_append.1 this with h3 | h3
            · simp [h3]
            · rcases List.mem_cons.1 h3 with h3 | h3
              · exact absurd h3.symm hne
              · simp [h3]
      · intro j o hj hl e he hb
        by_cases hne : i = e.on
        · rw [← hne]
          have hb2 : i < listed.size := by omega
          simp [hb2]
        · rw [getD_set_ne false hne]
          by_cases hji : i = j
          · subst hji
            rw [hoi] at hj
            cases hj
            exact hall e he hb
          · rw [getD_set_ne false hji] at hl
            exact hclosed j o hj hl e he hb
  termination_by fuel => fuel
end
end Go.Proofs.YtjpgpkkbmoehdaaDoor.Ra
