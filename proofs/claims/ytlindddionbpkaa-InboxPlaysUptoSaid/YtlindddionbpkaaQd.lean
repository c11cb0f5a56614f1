/- inbox: Offer in the machine. -/
import Derived.Test.YtlindddionbpkaaQc
namespace Go.Proofs.Ytlindddionbpkaa.Ra
open Go Go.Conc Go.RowKit
set_option linter.unusedVariables false
set_option linter.unusedSimpArgs false
/-- The k-th cell of a row of single cells. -/
def aelem (st : St) (v : AV) (k : Nat) : Option AV := match v with
  | .sl j off len es => (st.get j).bind fun o => o.cells[off + k]?
  | _ => none
def offerGo (call : ACall) (i n : Nat) (v : AV) : Nat → Nat → St → Option (AV × St)
  | 0, k, st => some (.tup [.pl (.int .i64 n), .pl (.int .i64 0)], st)
  | m + 1, k, st => match aelem st v k with
    | none => none
    | some x => match call 22 [x] st with
      | none => none
      | some (y, st1) => match st1.ch i with
        | none => none
        | some c => if c.closed = true then none else if c.row.length < c.cap then offerGo call i n v m (k + 1) (st1.setCh i { c with row := c.row ++ [y] }) else some (.tup [.pl (.int .i64 k), .pl (.int .i64 261)], st1)
/-- A call, inside a walk of one goroutine. -/
theorem loneTo_of_calls {P : Program} {Q : Goroutine → World → Prop} {f : FuncId} {args : Array Value} {w : World} {R : Ending → World → Prop} (hc : Calls P f args w R) {args' : Array Value} (ha : args' = args) (c : Frame) (cs : List Frame) (hret : ∀ e w', R e w' → ∃ v, e = .returned v ∧ LoneTo P Q (G (c.finish v) cs) w') : LoneTo P Q (G (Frame.enter P f args' .normal) (c :: cs)) w := by
  rw [ha]
  obtain ⟨e, w', fr, hR, hcomes, hfn, hl⟩ := hc (c :: cs)
  obtain ⟨v, rfl, g', w2, hs, hq⟩ := hret e w' hR
  have h1 : Steps P (lone (Frame.enter P f args .normal) (c :: cs) w) (lone fr (c :: cs) w') := hcomes
  exact ⟨g', w2, Steps.trans h1 (Steps.head (step_leave_returned hl) hs), hq⟩
def sndSeq : Code → Code | .seq _ b => b | c => c
def fstSeq : Code → Code | .seq a _ => a | c => c
def unBlock : Code → Code | .block _ c => c | c => c
def unLoop : Code → Code | .loop c => c | c => c
noncomputable def loopBody : Code := unLoop (unBlock (sndSeq (fstSeq (sndSeq (sndSeq (Try.f8.body.getD .skip))))))
noncomputable def afterLoop : Code := sndSeq (sndSeq (sndSeq (Try.f8.body.getD .skip)))
/-- What the call comes to. -/
def Ends (w0 : World) (cs : List Frame) (σ : Ren) (n0 : Nat) (st' : St) (r : AV) (g' : Goroutine) (w' : World) : Prop :=
  ∃ e fr, g' = G fr cs ∧ (∃ v σ', e = .returned v ∧ Sub σ σ' ∧ (∀ i, i < n0 → σ i = none → σ' i = none) ∧ Sim Try.prog w0 σ' st' w' ∧ VR σ' r v) ∧ fr.fn = 8 ∧ fr.leaving Try.prog w' e
theorem pair_ints (σ : Ren) (a b : Int) : VR σ (.tup [.pl (.int .i64 a), .pl (.int .i64 b)]) (.tuple #[.int .i64 a, .int .i64 b]) :=
  .tup rfl fun i x v hx hv => by
    match i with
    | 0 => simp at hx hv; subst hx; subst hv; exact .pl _
    | 1 => simp at hx hv; subst hx; subst hv; exact .pl _
    | i + 2 => simp at hx
set_option maxRecDepth 100000 in
theorem offer_exit {w0 : World} {σ : Ren} {st : St} {w : World} (hS : Sim Try.prog w0 σ st w) (n0 : Nat) (cs : List Frame) (p : Value) (b : Option Addr) (n cap : Nat) (j2 j3 j6 j7 j8 j9 j10 j11 j15 j16 j17 j18 j19 j20 j21 j22 j23 j24 j25 j26 j27 j28 j29 j30 j31 : Value) :
    LoneTo Try.prog (Ends w0 cs σ n0 st (.tup [.pl (.int .i64 n), .pl (.int .i64 0)])) (G ((base 8).at ⟨#[p, .slice b n cap, j2, j3, .int .i64 0, .int .i64 0, j6, j7, j8, j9, j10, j11, .slice b n cap, .int .i64 n, .int .i64 n, j15, j16, j17, j18, j19, j20, j21, j22, j23, j24, j25, j26, j27, j28, j29, j30, j31], []⟩ [.code loopBody, .inLoop loopBody, .inBlock 0, .code afterLoop]) cs) w := by
  refine LoneTo.goes (n := 30) ?_
  simp only [loopBody, afterLoop, Try.f8, Option.getD_some, sndSeq, fstSeq, unBlock, unLoop]
  s_c stepG_seq
  s_reg
  s_op
  s_c stepG_region_end
  s_c stepG_seq
  s_cond false
  s_exit
  s_c stepG_seq
  s_reg
  s_op
  s_op
  s_op
  s_op
  s_c stepG_region_end
  s_c stepG_ret'
  s_stop
  exact LoneTo.done ⟨.returned (.tuple #[.int .i64 n, .int .i64 0]), _, rfl, ⟨_, σ, rfl, Sub.refl σ, fun _ _ h => h, hS, pair_ints σ _ _⟩, rfl, rfl, rfl, rfl, _, Try.func8, by simp [results, Try.f8, Frame.at]⟩
theorem Ends.back {w0 : World} {cs : List Frame} {σ σ1 : Ren} {n0 n1 : Nat} {st' : St} {r : AV} {g' : Goroutine} {w' : World} (h : Ends w0 cs σ1 n1 st' r g' w') (hs : Sub σ σ1) (hn : n0 ≤ n1) (hnew : ∀ i, i < n0 → σ i = none → σ1 i = none) : Ends w0 cs σ n0 st' r g' w' := by
  obtain ⟨e, fr, rfl, ⟨v, σ', rfl, k1, k2, k3, k4⟩, hf, hl⟩ := h
  exact ⟨_, fr, rfl, ⟨v, σ', rfl, hs.trans k1, fun i hi h0 => k2 i (by omega) (hnew i hi h0), k3, k4⟩, hf, hl⟩
theorem LoneTo.mono' {P : Program} {Q Q' : Goroutine → World → Prop} {g : Goroutine} {w : World} (h : LoneTo P Q g w) (hq : ∀ g' w', Q g' w' → Q' g' w') : LoneTo P Q' g w :=
  let ⟨g', w', s, q⟩ := h
  ⟨g', w', s, hq _ _ q⟩
set_option maxRecDepth 100000 in
theorem offer_loop {w0 : World} {call : ACall} (hc : CallOK Try.prog w0 call) (i n cap : Nat) (hnm : n ≤ maxLen) (j off es : Nat) (cs : List Frame) (r : AV) (st' : St) :
    ∀ (m k : Nat) (σ : Ren) (st : St) (w : World) (l lj : Loc) (j2 j3 j6 j7 j8 j9 j10 j11 j15 j16 j17 j18 j19 j20 j21 j22 j23 j24 j25 j26 j27 j28 j29 j30 j31 : Value),
      k + m = n → Sim Try.prog w0 σ st w → σ i = some l → (∃ c, st.ch i = some c) → σ j = some lj → offerGo call i n (.sl j off n es) m k st = some (r, st') →
      LoneTo Try.prog (Ends w0 cs σ st.n st' r) (G ((base 8).at ⟨#[.pointer (some ⟨l.blk, 0, none⟩), .slice (some ⟨lj.blk, lj.base + off, none⟩) n cap, j2, j3, .int .i64 0, .int .i64 0, j6, j7, j8, j9, j10, j11, .slice (some ⟨lj.blk, lj.base + off, none⟩) n cap, .int .i64 n, .int .i64 k, j15, j16, j17, j18, j19, j20, j21, j22, j23, j24, j25, j26, j27, j28, j29, j30, j31], []⟩ [.code loopBody, .inLoop loopBody, .inBlock 0, .code afterLoop]) cs) w := by
  intro m
  induction m with
  | zero =>
    intro k σ st w l lj j2 j3 j6 j7 j8 j9 j10 j11 j15 j16 j17 j18 j19 j20 j21 j22 j23 j24 j25 j26 j27 j28 j29 j30 j31 hk hS hl hch hlj ho
    have e : k = n := by omega
    subst e
    simp only [offerGo, Option.some.injEq, Prod.mk.injEq] at ho
    obtain ⟨rfl, rfl⟩ := ho
    exact offer_exit hS st.n cs _ _ k cap _ _ _ _ _ _ _ _ _ _ _ _ _ _ _ _ _ _ _ _ _ _ _ _ _
  | succ m ih =>
    intro k σ st w l lj j2 j3 j6 j7 j8 j9 j10 j11 j15 j16 j17 j18 j19 j20 j21 j22 j23 j24 j25 j26 j27 j28 j29 j30 j31 hk hS hl hch hlj ho
    have hkn : k < n := by omega
    have hmax : (n : Int) ≤ 9223372036854775807 := by unfold maxLen at hnm; omega
    rw [offerGo] at ho
    split at ho
    case h_1 => cases ho
    rename_i x hx
    split at ho
    case h_1 => cases ho
    rename_i y st1 hcall
    split at ho
    case h_1 => cases ho
    rename_i c hc1
    split at ho
    case isTrue => cases ho
    rename_i hopen
    simp only [aelem] at hx
    obtain ⟨oj, hoj, hxj⟩ := Option.bind_eq_some_iff.1 hx
    obtain ⟨vx, hvx, hrx⟩ := hS.cell hoj hlj hxj
    rw [← Nat.add_assoc] at hvx
    obtain ⟨c0, hc0⟩ := hch
    obtain ⟨l2, buf0, s0, q0, hl2, hb0, hat0, -⟩ := hS.inbAt hc0
    rw [hl] at hl2
    cases hl2
    have hl0 := hat0.c0
    obtain ⟨⟨fn, hf1, hf2, hf3⟩, hle, hcal⟩ := hc _ _ _ _ _ hcall
    have hcal := hcal σ w [vx] hS ⟨rfl, fun i x v hx hv => by
      match i with
      | 0 => simp at hx hv; subst hx; subst hv; exact hrx
      | i + 1 => simp at hx⟩
    have hfE : fn = Try.f22 := by
      have := Try.func22
      rw [hf1] at this
      exact Option.some.inj this
    have hw1 : IntKind.i64.wrap ((k : Int) + 1) = (k : Int) + 1 := wrap_small _ (by omega) (by omega)
    have hlt : (k : Int) < n := by omega
    refine LoneTo.goes (n := 60) ?_
    simp only [loopBody, afterLoop, Try.f8, Option.getD_some, sndSeq, fstSeq, unBlock, unLoop]
    s_c stepG_seq
    s_reg
    s_op
    s_c stepG_region_end
    s_c stepG_seq
    s_cond true
    s_c stepG_skip
    s_c stepG_seq
    s_c stepG_block
    s_c stepG_seq
    s_reg
    s_op
    s_op
    s_op
    s_op
    s_op
    s_c stepG_region_end
    s_c stepG_seq
    s_c stepG_seq
    s_reg
    s_op
    s_op
    s_op
    s_op
    s_c stepG_region_end
    s_reg
    s_op
    s_in
    refine goes_call rfl rfl (by decide) rfl Try.func22 (by rw [← hfE]; exact hf2) rfl ⟨trivial, ?_⟩
    s_stop
    rw [← enter_at _ Try.func22 rfl]
    refine loneTo_of_calls hcal (by simp [Act.eval]) _ _ ?_
    rintro e w1 ⟨u, σ1, rfl, hs1, hnew1, hS1, hu⟩
    refine ⟨u, rfl, ?_⟩
    rw [Frame.finish_at]
    walk_nrm
    obtain ⟨l3, buf, s, q, hl3, hb3, hat, hrow⟩ := hS1.inbAt hc1
    have hl1 := hs1 _ _ hl
    rw [hl1] at hl3
    cases hl3
    rw [show c.closed = false by simpa using hopen] at hat
    refine LoneTo.goes (n := 60) ?_
    s_c stepG_region_end
    s_c stepG_seq
    s_reg
    s_stop
    split at ho
    · rename_i hroom
      have hroom2 : buf.size < c.cap := by
        have := hrow.1
        simp at this
        omega
      refine LoneTo.step (step_lone_select_send_room (c := l.lim) (stepG_comm (cases := #[scase l.lim u (.slice none 0 0)]) (blocking := false) (shape := .select) (w' := w1) rfl rfl (by decide) (by simp [go_sem, execOp, scase, Act.eval])) hat.hc hroom2) ?_
      rw [Frame.finish_at]
      walk_nrm
      refine LoneTo.goes (n := 60) ?_
      s_op
      s_op
      s_c stepG_region_end
      s_c stepG_block
      s_cond true
      s_c stepG_skip
      s_c stepG_inBlock
      s_c stepG_inBlock
      s_reg
      s_op
      s_op
      s_c stepG_region_end
      s_c stepG_inLoop
      s_stop
      have hcf : c.closed = false := by simpa using hopen
      have hS2 := hS1.inbRow hc1 hl1 (row := c.row ++ [y]) (buf := buf.push u) (by
        rw [Array.toList_push]
        exact hrow.append ⟨rfl, fun i x v hx hv => by
          match i with
          | 0 => simp at hx hv; subst hx; subst hv; exact hu
          | i + 1 => simp at hx⟩) (s + 1) q
      rw [hcf] at hS2
      have ho2 : offerGo call i n (.sl j off n es) m (k + 1) (st1.setCh i { cap := c.cap, row := c.row ++ [y], closed := false }) = some (r, st') := by rw [← hcf]; exact ho
      refine LoneTo.mono' (ih (k + 1) σ1 _ _ l lj _ _ _ _ _ _ _ _ _ _ _ _ _ _ _ _ _ _ _ _ _ _ _ _ _ (by omega) hS2 hl1 ⟨_, by simp only [St.setCh, if_true]; rfl⟩ (hs1 _ _ hlj) ho2) ?_
      exact fun g' w' h => h.back hs1 hle hnew1
    · rename_i hroom
      cases ho
      have hroom2 : c.cap ≤ buf.size := by
        have := hrow.1
        simp at this
        omega
      refine LoneTo.step (step_lone_select_send_full (c := l.lim) (stepG_comm (cases := #[scase l.lim u (.slice none 0 0)]) (blocking := false) (shape := .select) (w' := w1) rfl rfl (by decide) (by simp [go_sem, execOp, scase, Act.eval])) hat.hc hroom2) ?_
      rw [Frame.finish_at]
      walk_nrm
      refine LoneTo.goes (n := 60) ?_
      s_op
      s_op
      s_c stepG_region_end
      s_c stepG_block
      s_cond false
      s_c stepG_seq
      s_reg
      s_op
      s_op
      s_op
      s_c stepG_region_end
      s_c stepG_ret'
      s_stop
      exact LoneTo.done ⟨.returned (.tuple #[.int .i64 k, .int .i64 261]), _, rfl, ⟨_, σ1, rfl, hs1, hnew1, hS1, pair_ints σ1 _ _⟩, rfl, rfl, rfl, rfl, _, Try.func8, by simp [results, Try.f8, Frame.at]⟩
/-- What a call comes to, by names. -/
def Told (P : Program) (w0 : World) (σ : Ren) (n0 : Nat) (st' : St) (r : AV) (e : Ending) (w' : World) : Prop := ∃ v σ', e = .returned v ∧ Sub σ σ' ∧ (∀ i, i < n0 → σ i = none → σ' i = none) ∧ Sim P w0 σ' st' w' ∧ VR σ' r v
set_option maxRecDepth 100000 in
theorem offer_open {w0 : World} {call : ACall} (hc : CallOK Try.prog w0 call) {σ : Ren} {st st' : St} {w : World} {r : AV} (hS : Sim Try.prog w0 σ st w) {i : Nat} {c : AInb} (hch : st.ch i = some c) (hopen : ¬ c.closed = true) {l : Loc} (hl : σ i = some l) {j off n es : Nat} {vs : Value} (hv : VR σ (.sl j off n es) vs) (ho : offerGo call i n (.sl j off n es) n 0 st = some (r, st')) :
    Calls Try.prog 8 #[.pointer (some ⟨l.blk, 0, none⟩), vs] w (Told Try.prog w0 σ st.n st' r) := by
  obtain ⟨l2, buf, s, q, hl2, hb, hat, -⟩ := hS.inbAt hch
  rw [hl] at hl2
  cases hl2
  have hl1 := hat.c1
  rw [show c.closed = false by simpa using hopen] at hl1
  cases hv with
  | @sl _ _ _ _ cap o lj hj hlen hm hoff hes =>
  refine calls_of_loneTo (fun cs => ?_) (by rintro _ ⟨_, _, h, _⟩; cases h)
  have e : Frame.enter Try.prog 8 #[.pointer (some ⟨l.blk, 0, none⟩), .slice (some ⟨lj.blk, o, none⟩) n cap] .normal = (base 8).at ⟨#[.pointer (some ⟨l.blk, 0, none⟩), .slice (some ⟨lj.blk, o, none⟩) n cap, undef, undef, undef, undef, undef, undef, undef, undef, undef, undef, undef, undef, undef, undef, undef, undef, undef, undef, undef, undef, undef, undef, undef, undef, undef, undef, undef, undef, undef, undef], []⟩ [.code (Try.f8.body.getD .skip)] := by
    simp [Frame.enter, Frame.at, Try.func8, base, Try.f8]
  rw [e]
  refine LoneTo.goes (n := 60) ?_
  simp only [Try.f8, Option.getD_some]
  s_c stepG_seq
  s_reg
  s_op
  s_op
  s_c stepG_region_end
  s_c stepG_seq
  s_c stepG_seq
  s_reg
  s_op
  s_op
  s_op
  s_op
  s_c stepG_region_end
  s_cond false
  s_c stepG_skip
  s_c stepG_seq
  s_c stepG_seq
  s_reg
  s_op
  s_op
  s_op
  s_c stepG_region_end
  s_c stepG_block
  s_c stepG_loop
  s_stop
  by_cases hn : n = 0
  · subst hn
    simp only [offerGo, Option.some.injEq, Prod.mk.injEq] at ho
    obtain ⟨rfl, rfl⟩ := ho
    exact offer_exit hS st.n cs _ _ 0 cap _ _ _ _ _ _ _ _ _ _ _ _ _ _ _ _ _ _ _ _ _ _ _ _ _
  · have ho2 := hoff.resolve_left (by omega)
    subst ho2
    exact offer_loop hc i n cap (by omega) j off es cs r st' n 0 σ st w l lj _ _ _ _ _ _ _ _ _ _ _ _ _ _ _ _ _ _ _ _ _ _ _ _ _ (by omega) hS hl ⟨_, hch⟩ hj ho
set_option maxRecDepth 100000 in
theorem offer_shut {w : World} {bx c cap s q : Nat} {buf : Array Value} (h : Qa.InbAt w bx c cap buf true s q) (v : Value) :
    Calls Try.prog 8 #[.pointer (some ⟨bx, 0, none⟩), v] w fun e w' => e = .returned (.tuple #[.int .i64 0, .int .i64 260]) ∧ w' = w := by
  have hl1 := h.c1
  refine calls_of_loneTo (fun cs => ?_)
  have e : Frame.enter Try.prog 8 #[.pointer (some ⟨bx, 0, none⟩), v] .normal = (base 8).at ⟨#[.pointer (some ⟨bx, 0, none⟩), v, undef, undef, undef, undef, undef, undef, undef, undef, undef, undef, undef, undef, undef, undef, undef, undef, undef, undef, undef, undef, undef, undef, undef, undef, undef, undef, undef, undef, undef, undef], []⟩ [.code (Try.f8.body.getD .skip)] := by
    simp [Frame.enter, Frame.at, Try.func8, base, Try.f8]
  rw [e]
  refine LoneTo.goes (n := 60) ?_
  simp only [Try.f8, Option.getD_some]
  s_c stepG_seq
  s_reg
  s_op
  s_op
  s_c stepG_region_end
  s_c stepG_seq
  s_c stepG_seq
  s_reg
  s_op
  s_op
  s_op
  s_op
  s_c stepG_region_end
  s_cond true
  s_c stepG_seq
  s_reg
  s_op
  s_op
  s_c stepG_region_end
  s_c stepG_ret'
  s_stop
  exact LoneTo.done ⟨.returned (.tuple #[.int .i64 0, .int .i64 260]), _, rfl, ⟨rfl, rfl⟩, rfl, rfl, rfl, rfl, _, Try.func8, by simp [results, Try.f8, Frame.at]⟩
end Go.Proofs.Ytlindddionbpkaa.Ra
