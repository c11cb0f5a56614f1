/- Steps: an operation at a time, as they stand in a region. -/
import Derived.Test.YtjpgpkkbmoehdaaDoorRq
namespace Go.Proofs.YtjpgpkkbmoehdaaDoor.Ra
open Go Go.RowKit
set_option linter.unusedVariables false
set_option linter.unusedSimpArgs false
section
variable {P : Program} {sd : Bool} {ops : Array Oper} {n0 i : Nat} {o : Oper} {l : List Oper} {fr : AFr} {st st1 : St} {Q : AFr → St → Prop} {y : AV} {t : Nat}
/-- The operations l of a region are still to do. -/
def ARL (P : Program) (sd : Bool) (ops : Array Oper) (n0 i : Nat) (l : List Oper) (fr : AFr) (st : St) (Q : AFr → St → Prop) : Prop := ops.toList.drop i = l → AR P sd ops n0 i fr st Q
theorem aput_at (fr : AFr) (d : Nat) (v : AV) (t : Nat) : aput fr (some d) v t = if t = d then v else fr t := rfl
theorem arl_ops (h : ops.toList.drop i = o :: l) : ops[i]? = some o ∧ ops.toList.drop (i + 1) = l := by
  have h1 := congrArg (fun q => q[0]?) h
  have h2 := congrArg List.tail h
  rw [List.tail_drop] at h2
  simp only [List.getElem?_drop, Nat.add_zero, Array.getElem?_toList, List.getElem?_cons_zero] at h1
  exact ⟨h1, h2⟩
theorem arl_nil (h : Q fr st) : ARL P sd ops n0 i [] fr st Q := fun hl => ar_nil (by
  have := congrArg List.length hl
  simp at this
  omega) h
theorem arl_cons (hd : o.dst = some t) (hw : awanted ops fr o = true) (h : aop P (acall P 0) (n0 + i) o fr st = some (y, st1)) (hs : y.solid = true) (hcl : isCall o.op = false) (hk : ARL P sd ops n0 (i + 1) l (aput fr (some t) y) st1 Q) : ARL P sd ops n0 i (o :: l) fr st Q := fun hl =>
  ar_op (arl_ops hl).1 hw h hs hcl (by rw [hd]; exact hk (arl_ops hl).2)
theorem arl_none (hd : o.dst = none) (hw : awanted ops fr o = true) (h : aop P (acall P 0) (n0 + i) o fr st = some (y, st1)) (hs : y.solid = true) (hcl : isCall o.op = false) (hk : ARL P sd ops n0 (i + 1) l fr st1 Q) : ARL P sd ops n0 i (o :: l) fr st Q := fun hl =>
  ar_op (arl_ops hl).1 hw h hs hcl (by rw [hd]; exact hk (arl_ops hl).2)
theorem arl_off (hd : o.dst = some t) (hw : awanted ops fr o = false) (hk : ARL P sd ops n0 (i + 1) l (aput fr (some t) (.pl undef)) st Q) : ARL P sd ops n0 i (o :: l) fr st Q := fun hl =>
  ar_off (arl_ops hl).1 hw (by rw [hd]; exact hk (arl_ops hl).2)
theorem arl_call {c : Call} {f : Operand} {g : FuncId} {caps xs : List AV} (hd : o.dst = some t) (hw : awanted ops fr o = true) (hop : o.op = .call c) (hc : c.callee = .value f) (hf : aeval fr f = .fn g caps) (hx : c.args.toList.map (aeval fr) ++ caps = xs)
    (h : ACalls P g xs st (fun r st1 => r.solid = true ∧ ARL P false ops n0 (i + 1) l (aput fr (some t) r) st1 Q)) : ARL P false ops n0 i (o :: l) fr st Q := fun hl =>
  ar_call (arl_ops hl).1 hw hop hc hf (by
    rw [hx]
    exact h.mono fun r s hr => ⟨⟨hr.1, fun h _ => by cases h⟩, by rw [hd]; exact hr.2 (arl_ops hl).2⟩)
/-- .. in a strict region, where each load is ordered against the call. -/
theorem arl_callN {c : Call} {f : Operand} {g : FuncId} {caps xs : List AV} (hm : must P ops i = false) (hd : o.dst = some t) (hw : awanted ops fr o = true) (hop : o.op = .call c) (hc : c.callee = .value f) (hf : aeval fr f = .fn g caps) (hx : c.args.toList.map (aeval fr) ++ caps = xs)
    (h : ACalls P g xs st (fun r st1 => r.solid = true ∧ ARL P sd ops n0 (i + 1) l (aput fr (some t) r) st1 Q)) : ARL P sd ops n0 i (o :: l) fr st Q := fun hl =>
  ar_call (arl_ops hl).1 hw hop hc hf (by
    rw [hx]
    exact h.mono fun r s hr => ⟨⟨hr.1, fun _ h => by rw [hm] at h; cases h⟩, by rw [hd]; exact hr.2 (arl_ops hl).2⟩)
/-- .. in a strict region. -/
theorem arl_callS {c : Call} {f : Operand} {g : FuncId} {caps xs : List AV} (hd : o.dst = some t) (hw : awanted ops fr o = true) (hop : o.op = .call c) (hc : c.callee = .value f) (hf : aeval fr f = .fn g caps) (hx : c.args.toList.map (aeval fr) ++ caps = xs)
    (h : ACalls P g xs st (fun r st1 => Ext st st1 ∧ r.solid = true ∧ ARL P sd ops n0 (i + 1) l (aput fr (some t) r) st1 Q)) : ARL P sd ops n0 i (o :: l) fr st Q := fun hl =>
  ar_call (arl_ops hl).1 hw hop hc hf (by
    rw [hx]
    exact h.dead.mono fun r s hr => ⟨⟨hr.2.2.1, fun _ _ => ⟨hr.2.1.n, fun k hk => by
      cases hg : st.get k with
      | none => exact hr.1 k hk hg
      | some ob => exact hr.2.1.get k ob hg (fun h => h), fun k ob hg => hr.2.1.get k ob hg (fun h => h)⟩⟩, by rw [hd]; exact hr.2.2.2 (arl_ops hl).2⟩)
theorem aw_reg {id m : Nat} {draw : Bool} {Q : AExit → AFr → St → Prop} (hd : (!draw || (commOK P false ops && P.follows .mixedOrders)) = true) (hm : ops.size = m) (h : ARL P false ops st.n 0 ops.toList fr (st.bump m) (Q .normal)) : AW P (.region id ops draw) fr st Q := aw_region (by
  cases draw with
  | false => rfl
  | true => simp at hd; simp [sdOf, hd.1]) (.inl hd) (by rw [hm]; exact h rfl)
theorem aw_reg0 {id m : Nat} {Q : AExit → AFr → St → Prop} (hm : ops.size = m) (h : ARL P false ops st.n 0 ops.toList fr (st.bump m) (Q .normal)) : AW P (.region id ops false) fr st Q := aw_reg (by simp) hm h
theorem aw_regS {id m : Nat} {Q : AExit → AFr → St → Prop} (hd : (!commOK P false ops && (commOK P true ops && P.follows .mixedOrders)) = true) (hm : ops.size = m) (h : ARL P true ops st.n 0 ops.toList fr (st.bump m) (Q .normal)) : AW P (.region id ops true) fr st Q := by
  simp only [Bool.and_eq_true, Bool.not_eq_true'] at hd
  exact aw_region (sd := true) (by simp [sdOf, hd.1]) (.inl (by simp [hd.2])) (by rw [hm]; exact h rfl)
/-- What is new may be made ahead of a call that stands before it. -/
theorem aw_regN {id m : Nat} {Q : AExit → AFr → St → Prop} (hd : (!commOK P false ops && (commOKN P true ops && P.follows .mixedOrders)) = true) (hm : ops.size = m) (hw : WF st) (h : ARL P true ops st.n 0 ops.toList fr (st.bump m) (Q .normal)) : AW P (.region id ops true) fr st Q := by
  simp only [Bool.and_eq_true, Bool.not_eq_true'] at hd
  exact aw_region (sd := true) (by simp [sdOf, hd.1]) (.inr ⟨by simp [hd.2], hw⟩) (by rw [hm]; exact h rfl)
end
section
variable {P : Program} {st : St}
theorem len_sl {ts : Array TypeId} {e : TypeId} (h : (ts[0]?).bind P.underlying = some (.slice e)) (i off n es : Nat) : alen P ts [.sl i off n es] = some (.pl (.int .i64 n)) := by simp [alen, h, isSliceD]
theorem len_pl {ts : Array TypeId} {e : TypeId} (h : (ts[0]?).bind P.underlying = some (.slice e)) (q : Option Addr) (n c : Nat) : alen P ts [.pl (.slice q n c)] = some (.pl (.int .i64 n)) := by simp [alen, h, isSliceD]
theorem idx_sl {t e : TypeId} {s : Nat} (h : P.underlying t = some (.slice e)) (hs : szOf P e = some s) (i off n es : Nat) (k : IntKind) (x : Int) (h0 : 0 ≤ x) (h1 : x < n) : aindexAddr P t (.sl i off n es) (.pl (.int k x)) = some (.ptr i (off + x.toNat * s)) := by simp [aindexAddr, h, hs, h0, h1]
theorem load_at {t : TypeId} {d : TypeDesc} {s i off : Nat} {o : AObj} {x : AV} (hd : P.underlying t = some d) (ha : aggD d = false) (hs : szOf P t = some s) (ho : st.get i = some o) (hx : o.cells[off]? = some x) : aload P st t (.ptr i off) = some x := by simp [aload, hd, ha, hs, ho, hx]
theorem bin_int (op : BinOp) (t : TypeId) (k : IntKind) (a b : Int) : abin P op t (.pl (.int k a)) (.pl (.int k b)) = aintBin op k a b := by simp [abin]
theorem get_put (i : Nat) (o : AObj) : (st.put i o).get i = some o := by simp [St.put]
theorem get_put_ne {i j : Nat} (o : AObj) (h : j ≠ i) : (st.put i o).get j = st.get j := by simp [St.put, h]
end
/-- A loop by what holds at each round's beginning: I n, n falls; the store stays well formed. -/
theorem aw_rounds_wf {P : Program} {a : Code} {Q : AExit → AFr → St → Prop} (I : Nat → AFr → St → Prop) (round : ∀ n fr st, WF st → I n fr st → AW P a fr st (fun e fr' st' => match e with | .normal => ∃ m, m < n ∧ I m fr' st' | e => Q e fr' st')) (n : Nat) (fr : AFr) (st : St) (hw : WF st) (hI : I n fr st) : AW P (.loop a) fr st Q :=
  aw_rounds (fun n fr st => WF st ∧ I n fr st) (fun n fr st h => ((round n fr st h.1 h.2).wf h.1).mono fun e fr' st' hq => by
    obtain ⟨h1, h2, h3⟩ := hq
    cases e with
    | normal => obtain ⟨m, hm, hI⟩ := h3; exact ⟨m, hm, h1, hI⟩
    | exit i => exact h3
    | ret => exact h3) n fr st ⟨hw, hI⟩
end Go.Proofs.YtjpgpkkbmoehdaaDoor.Ra
