/- Functions that are told by a law of their own: the inboxes. -/
import Derived.Test.YtlindddionbpkaaQd
namespace Go.Proofs.Ytlindddionbpkaa.Ra
open Go Go.RowKit
set_option linter.unusedVariables false
set_option linter.unusedSimpArgs false
/-- The programs that are told of. -/
def oracP (P : Program) : Prop := P = Try.prog
def isOrac (f : FuncId) : Bool := [6, 8, 10, 11, 12, 13, 21].contains f
def pairI (a b : Int) : AV := .tup [.pl (.int .i64 a), .pl (.int .i64 b)]
def oOffer (call : ACall) (i : Nat) (v : AV) (c : AInb) (st : St) : Option (AV × St) :=
  if c.closed = true then some (pairI 0 260, st) else match v with
    | .sl j off n es => offerGo call i n (.sl j off n es) n 0 st
    | _ => none
def oTake (i : Nat) (c : AInb) (st : St) : AV × St := match c.row with
  | [] => (.tup [.pl (.slice none 0 0), .pl (.int .i64 (if c.closed = true then 260 else 183))], st)
  | x :: r => (.tup [x, .pl (.int .i64 0)], st.setCh i { c with row := r })
def orac (P : Program) (call : ACall) (f : FuncId) (xs : List AV) (st : St) : Option (AV × St) :=
  match xs with
  | [.pl (.int .i64 n)] => if f = 6 then some (.ptr st.n 0, (st.bump 1).setCh st.n ⟨Qa.plc n, [], false⟩) else none
  | [.ptr i 0, v] => if f = 8 then (st.ch i).bind fun c => oOffer call i v c st else none
  | [.ptr i 0] => (st.ch i).bind fun c =>
    if f = 10 then (if c.cap ≤ 64 ∧ c.row.length ≤ c.cap then some (.pl (.int .i64 (if c.closed = true then 0 else (c.cap : Int) - c.row.length)), st) else none)
    else if f = 11 then some (oTake i c st)
    else if f = 12 then some (.pl (.int .i64 c.row.length), st)
    else if f = 13 then some (.tup [], st.setCh i { c with closed := true })
    else if f = 21 then some (.pl (.bool c.closed), st)
    else none
  | _ => none
theorem offerGo_mono {c c' : ACall} (h : ∀ f xs st r, c f xs st = some r → c' f xs st = some r) {i n : Nat} {v : AV} {r : AV × St} : ∀ (m k : Nat) (st : St), offerGo c i n v m k st = some r → offerGo c' i n v m k st = some r
  | 0, k, st, ho => ho
  | m + 1, k, st, ho => by
    rw [offerGo] at ho ⊢
    split at ho
    case h_1 => cases ho
    rename_i x hx
    split at ho
    case h_1 => cases ho
    rename_i y st1 hc
    try rw [hx]
    simp only [h _ _ _ _ hc]
    split at ho
    case h_1 => cases ho
    rename_i cc hcc
    try rw [hcc]
    try simp only
    split at ho
    case isTrue => cases ho
    rename_i h1
    rw [if_neg h1]
    split at ho
    · rename_i h2
      rw [if_pos h2]
      exact offerGo_mono h m (k + 1) _ ho
    · rename_i h2
      rw [if_neg h2]
      exact ho
theorem offerGo_inv {c : ACall} {i n : Nat} {v : AV} {r : AV} {st' : St} (I : St → Prop) (hI : ∀ st c, I st → I (st.setCh i c)) (h : ∀ f xs st r st', c f xs st = some (r, st') → I st → I st') : ∀ (m k : Nat) (st : St), offerGo c i n v m k st = some (r, st') → I st → I st'
  | 0, k, st, ho, hi => by
    simp only [offerGo, Option.some.injEq, Prod.mk.injEq] at ho
    rw [← ho.2]
    exact hi
  | m + 1, k, st, ho, hi => by
    rw [offerGo] at ho
    split at ho
    case h_1 => cases ho
    split at ho
    case h_1 => cases ho
    rename_i hc
    have h1 := h _ _ _ _ _ hc hi
    split at ho
    case h_1 => cases ho
    split at ho
    case isTrue => cases ho
    split at ho
    · exact offerGo_inv I hI h m (k + 1) _ ho (hI _ _ h1)
    · simp only [Option.some.injEq, Prod.mk.injEq] at ho
      rw [← ho.2]
      exact h1
theorem orac_mono {P : Program} {c c' : ACall} (h : ∀ f xs st r, c f xs st = some r → c' f xs st = some r) {f : FuncId} {xs : List AV} {st : St} {r : AV × St} (ho : orac P c f xs st = some r) : orac P c' f xs st = some r := by
  unfold orac at ho ⊢
  split at ho
  · exact ho
  · split at ho
    case isFalse => cases ho
    rename_i h1
    rw [if_pos h1]
    obtain ⟨cc, h2, h3⟩ := Option.bind_eq_some_iff.1 ho
    rw [h2]
    simp only [Option.bind_some]
    unfold oOffer at h3 ⊢
    split at h3
    · rename_i h4
      rw [if_pos h4]
      exact h3
    · rename_i h4
      rw [if_neg h4]
      split at h3
      · exact offerGo_mono h _ _ _ h3
      · cases h3
  · exact ho
  · cases ho
/-- What the calls keep, an inbox's law keeps. -/
theorem orac_inv {P : Program} {c : ACall} {f : FuncId} {xs : List AV} {st st' : St} {r : AV} (I : St → Prop) (hI : ∀ st i c, I st → I (st.setCh i c)) (hb : I st → I (st.bump 1)) (h : ∀ f xs st r st', c f xs st = some (r, st') → I st → I st') (ho : orac P c f xs st = some (r, st')) (hi : I st) : I st' := by
  unfold orac at ho
  split at ho
  · split at ho
    case isFalse => cases ho
    simp only [Option.some.injEq, Prod.mk.injEq] at ho
    rw [← ho.2]
    exact hI _ _ _ (hb hi)
  · split at ho
    case isFalse => cases ho
    obtain ⟨cc, h2, h3⟩ := Option.bind_eq_some_iff.1 ho
    unfold oOffer at h3
    split at h3
    · simp only [Option.some.injEq, Prod.mk.injEq] at h3
      rw [← h3.2]
      exact hi
    · split at h3
      · exact offerGo_inv I (fun st c => hI st _ c) h _ _ _ h3 hi
      · cases h3
  · obtain ⟨cc, h2, h3⟩ := Option.bind_eq_some_iff.1 ho
    unfold oTake at h3
    repeat' split at h3
    all_goals first
      | (cases h3; done)
      | (simp only [Option.some.injEq, Prod.mk.injEq] at h3; rw [← h3.2]; first | exact hi | exact hI _ _ _ hi)
  · cases ho
theorem orac_wf {P : Program} {c : ACall} (h : ∀ f xs st r st', c f xs st = some (r, st') → (∀ i o, st.get i = some o → i < st.n ∧ o.grp < st.n) → (∀ i o, st'.get i = some o → i < st'.n ∧ o.grp < st'.n) ∧ st.n ≤ st'.n) {f : FuncId} {xs : List AV} {st st' : St} {r : AV} (ho : orac P c f xs st = some (r, st')) (hw : ∀ i o, st.get i = some o → i < st.n ∧ o.grp < st.n) :
    (∀ i o, st'.get i = some o → i < st'.n ∧ o.grp < st'.n) ∧ st.n ≤ st'.n :=
  orac_inv (fun s => (∀ i o, s.get i = some o → i < s.n ∧ o.grp < s.n) ∧ st.n ≤ s.n) (fun _ _ _ h => h) (fun h => ⟨fun i o hi => by have := h.1 i o hi; simp only [St.bump]; omega, by simp only [St.bump]; omega⟩) (fun f xs s r s' hc hs => ⟨(h f xs s r s' hc hs.1).1, Nat.le_trans hs.2 (h f xs s r s' hc hs.1).2⟩) ho ⟨hw, Nat.le_refl _⟩
theorem orac_wd {P : Program} {d : Nat} {c : ACall} (h : ∀ f xs st r st', c f xs st = some (r, st') → (d < st.n ∧ st.get d = none) → (d < st'.n ∧ st'.get d = none)) {f : FuncId} {xs : List AV} {st st' : St} {r : AV} (ho : orac P c f xs st = some (r, st')) (hw : d < st.n ∧ st.get d = none) : d < st'.n ∧ st'.get d = none :=
  orac_inv (fun s => d < s.n ∧ s.get d = none) (fun _ _ _ h => h) (fun h => ⟨by simp only [St.bump]; omega, h.2⟩) h ho hw
theorem args1 {σ : Ren} {x : AV} {vs : List Value} (h : CR σ [x] vs) : ∃ u, vs = [u] ∧ VR σ x u := by
  match vs, h with
  | [u], h => exact ⟨u, rfl, h.2 0 x u rfl rfl⟩
  | [], h => simp [CR] at h
  | _ :: _ :: _, h => simp [CR] at h
theorem args2 {σ : Ren} {x y : AV} {vs : List Value} (h : CR σ [x, y] vs) : ∃ u v, vs = [u, v] ∧ VR σ x u ∧ VR σ y v := by
  match vs, h with
  | [u, v], h => exact ⟨u, v, rfl, h.2 0 x u rfl rfl, h.2 1 y v rfl rfl⟩
  | [], h => simp [CR] at h
  | [_], h => simp [CR] at h
  | _ :: _ :: _ :: _, h => simp [CR] at h
theorem inb_ptr {P : Program} {w0 w : World} {σ : Ren} {st : St} (h : Sim P w0 σ st w) {i : Nat} {c : AInb} (hch : st.ch i = some c) {u : Value} (hu : VR σ (.ptr i 0) u) : ∃ l buf s q, σ i = some l ∧ u = .pointer (some ⟨l.blk, 0, none⟩) ∧ Qa.InbAt w l.blk l.lim c.cap buf c.closed s q ∧ CR σ c.row buf.toList := by
  obtain ⟨l, buf, s, q, hl, hb, hat, hr⟩ := h.inbAt hch
  cases hu with
  | @ptr _ _ l2 h2 =>
  rw [hl] at h2
  cases h2
  exact ⟨l, buf, s, q, hl, by rw [hb], hat, hr⟩
theorem Sim.drewN {P : Program} {w0 w : World} {σ : Ren} {st : St} (h : Sim P w0 σ st w) (m : Nat) : Sim P w0 σ st (w.drewN m) :=
  ⟨⟨h.below.os, h.below.tape, h.below.output, h.below.size, h.below.block⟩, h.dom, h.obj, h.place, h.alias, h.init, h.inbs.step (Sub.refl σ) rfl (fun _ _ _ _ _ _ => ⟨rfl, rfl⟩) (fun j o l' a b => .inl ⟨j, o, l', a, b, rfl⟩)⟩
theorem told {P : Program} {w0 w' : World} {σ : Ren} {n0 : Nat} {st' : St} {r : AV} {v : Value} (hS : Sim P w0 σ st' w') (hv : VR σ r v) : Told P w0 σ n0 st' r (.returned v) w' := ⟨v, σ, rfl, Sub.refl σ, fun _ _ h => h, hS, hv⟩
theorem pairV {σ : Ren} {x : AV} {u : Value} (h : VR σ x u) (b : Int) : VR σ (.tup [x, .pl (.int .i64 b)]) (.tuple #[u, .int .i64 b]) :=
  .tup rfl fun i x v hx hv => by
    match i with
    | 0 => simp at hx hv; subst hx; subst hv; exact h
    | 1 => simp at hx hv; subst hx; subst hv; exact .pl _
    | i + 2 => simp at hx
theorem orac_ok {P : Program} (hP : oracP P) {w0 : World} {call : ACall} (hc : CallOK P w0 call) {f : FuncId} {xs : List AV} {st st' : St} {r : AV} (hf : isOrac f = true) (ho : orac P call f xs st = some (r, st')) :
    (∃ fn, P.funcs[f]? = some fn ∧ (fn.name == "runtime.NumGoroutine") = false ∧ fn.body.isNone = false) ∧ st.n ≤ st'.n ∧
    ∀ σ w vs, Sim P w0 σ st w → CR σ xs vs → Calls P f vs.toArray w (fun e w' => ∃ v σ', e = .returned v ∧ Sub σ σ' ∧ (∀ i, i < st.n → σ i = none → σ' i = none) ∧ Sim P w0 σ' st' w' ∧ VR σ' r v) := by
  have hP2 : P = Try.prog := hP
  subst hP2
  refine ⟨?_, orac_inv (fun s => st.n ≤ s.n) (fun _ _ _ h => h) (fun h => by simp only [St.bump]; omega) (fun f xs s r s' h hs => Nat.le_trans hs (hc _ _ _ _ _ h).2.1) ho (Nat.le_refl _), fun σ w vs hS hcr => ?_⟩
  · simp only [isOrac, List.contains_cons, List.contains_nil, Bool.or_false, Bool.or_eq_true, beq_iff_eq] at hf
    rcases hf with rfl | rfl | rfl | rfl | rfl | rfl | rfl
    · exact ⟨_, Try.func6, by kernel_rfl, rfl⟩
    · exact ⟨_, Try.func8, by kernel_rfl, rfl⟩
    · exact ⟨_, Try.func10, by kernel_rfl, rfl⟩
    · exact ⟨_, Try.func11, by kernel_rfl, rfl⟩
    · exact ⟨_, Try.func12, by kernel_rfl, rfl⟩
    · exact ⟨_, Try.func13, by kernel_rfl, rfl⟩
    · exact ⟨_, Try.func21, by kernel_rfl, rfl⟩
  show Calls _ _ _ _ (Told Try.prog w0 σ st.n st' r)
  unfold orac at ho
  split at ho
  · rename_i n
    split at ho
    case isFalse => cases ho
    rename_i hff
    subst hff
    cases ho
    obtain ⟨u, rfl, hu⟩ := args1 hcr
    cases hu
    refine (Qa.new_calls n).mono fun e w' he => ?_
    obtain ⟨rfl, rfl⟩ := he
    have hid : σ st.n = none := hS.dom _ (Nat.le_refl _)
    have hV := VR.ptr (off := 0) (Ren.set_at σ st.n ⟨w.heap.size + 1, 0, w.heap.size, 0, true⟩)
    exact ⟨_, _, rfl, Ren.set_sub σ hid _, fun i hi h0 => by have : i ≠ st.n := by omega
                                                             simp only [Ren.set, this, if_false]; exact h0, hS.inbNew _ _, hV⟩
  · rename_i i v
    split at ho
    case isFalse => cases ho
    rename_i hff
    subst hff
    obtain ⟨c, hch, h3⟩ := Option.bind_eq_some_iff.1 ho
    obtain ⟨u, vv, rfl, hu, hvv⟩ := args2 hcr
    obtain ⟨l, buf, s, q, hl, rfl, hat, hr⟩ := inb_ptr hS hch hu
    unfold oOffer at h3
    split at h3
    · rename_i hcl
      cases h3
      rw [hcl] at hat
      refine (offer_shut hat vv).mono fun e w' he => ?_
      obtain ⟨rfl, rfl⟩ := he
      exact told hS (pair_ints σ 0 260)
    · rename_i hcl
      split at h3
      case h_2 => cases h3
      exact offer_open hc hS hch hcl hl hvv h3
  · rename_i i
    obtain ⟨c, hch, h3⟩ := Option.bind_eq_some_iff.1 ho
    obtain ⟨u, rfl, hu⟩ := args1 hcr
    obtain ⟨l, buf, s, q, hl, rfl, hat, hr⟩ := inb_ptr hS hch hu
    have hlen : c.row.length = buf.size := by simpa using hr.1
    split at h3
    · rename_i hff
      subst hff
      split at h3
      case isFalse => cases h3
      rename_i hs
      cases h3
      refine (Qa.room_calls hat (by rw [← hlen]; exact hs)).mono fun e w' he => ?_
      obtain ⟨rfl, m, rfl⟩ := he
      rw [hlen]
      exact told (hS.drewN m) (.pl _)
    split at h3
    · rename_i hff
      subst hff
      unfold oTake at h3
      split at h3
      · rename_i hrow
        cases h3
        rw [hrow] at hlen
        have hb : buf = #[] := by
          apply Array.eq_empty_of_size_eq_zero
          simpa using hlen.symm
        subst hb
        by_cases hcl : c.closed = true
        · rw [if_pos hcl]
          rw [hcl] at hat
          refine (Qa.take_shut hat).mono fun e w' he => ?_
          obtain ⟨rfl, rfl⟩ := he
          exact told hS (pairV (.pl _) 260)
        · rw [if_neg hcl]
          rw [show c.closed = false by simpa using hcl] at hat
          refine (Qa.take_none hat).mono fun e w' he => ?_
          obtain ⟨rfl, rfl⟩ := he
          exact told hS (pairV (.pl _) 183)
      · rename_i x rr hrow
        cases h3
        rw [hrow] at hr
        obtain ⟨v, hv, hV⟩ := hr.at (j := 0) (x := x) rfl
        have hv2 : buf[0]? = some v := by simpa using hv
        refine (Qa.take_some hat v hv2).mono fun e w' he => ?_
        obtain ⟨rfl, rfl⟩ := he
        refine told (hS.inbRow hch hl (by
          have := hr.drop 1
          have e : (buf.extract 1 buf.size).toList = buf.toList.drop 1 := by
            simp only [Array.toList_extract, List.extract_eq_take_drop]
            exact List.take_of_length_le (by simp)
          rw [e]
          exact this) s (q + 1)) (pairV hV 0)
    split at h3
    · rename_i hff
      subst hff
      cases h3
      refine (Qa.len_calls hat).mono fun e w' he => ?_
      obtain ⟨rfl, rfl⟩ := he
      rw [hlen]
      exact told hS (.pl _)
    split at h3
    · rename_i hff
      subst hff
      cases h3
      have h0 : VR σ (.tup []) (.tuple #[]) := .tup rfl fun i x v hx => by simp at hx
      by_cases hcl : c.closed = true
      · have hS2 : Sim Try.prog w0 σ (st.setCh i { c with closed := true }) w := by
          have e : st.setCh i { c with closed := true } = st := by
            have : ({ c with closed := true } : AInb) = c := by cases c; simp at hcl; subst hcl; rfl
            rw [this]
            unfold St.setCh
            have : (fun j => if j = i then some c else st.ch j) = st.ch := by
              funext j
              split
              · rename_i h; rw [h, hch]
              · rfl
            rw [this]
          rw [e]
          exact hS
        rw [hcl] at hat
        refine (Qa.close_shut hat).mono fun e w' he => ?_
        obtain ⟨rfl, rfl⟩ := he
        exact told hS2 h0
      · rw [show c.closed = false by simpa using hcl] at hat
        refine (Qa.close_open hat).mono fun e w' he => ?_
        obtain ⟨rfl, rfl⟩ := he
        exact told (hS.inbShut hch hl hr s q) h0
    split at h3
    · rename_i hff
      subst hff
      cases h3
      refine (Qa.closed_calls hat).mono fun e w' he => ?_
      obtain ⟨rfl, rfl⟩ := he
      exact told hS (.pl _)
    · cases h3
  · cases ho
end Go.Proofs.Ytlindddionbpkaa.Ra
