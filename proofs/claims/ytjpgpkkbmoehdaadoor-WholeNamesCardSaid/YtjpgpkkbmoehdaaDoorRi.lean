/- Regions: in the text's order, and in any order that the machine may draw. -/
import Derived.Test.YtjpgpkkbmoehdaaDoorRh
namespace Go.Proofs.YtjpgpkkbmoehdaaDoor.Ra
open Go Go.RowKit
set_option linter.unusedVariables false
set_option linter.unusedSimpArgs false

/-- What had a name before stays as it is, and what was no name is none. -/
structure Steady (st s : St) : Prop where
  n : st.n ≤ s.n
  old : ∀ k, k < st.n → s.get k = st.get k
  get : ∀ k o, st.get k = some o → s.get k = some o
def isCall : Op → Bool
  | .call c => match c.callee with
    | .value _ => true
    | _ => false
  | _ => false
/-- An append to nil: it makes what is new. -/
def nilApp (c : Call) : Bool := match c.callee, c.args.toList with
  | .builtin .append, [.const (.slice none 0 0), _] => true
  | _, _ => false
/-- How much of the store an operation meets: nothing; it reads; it makes what is new; anything. -/
def eff (P : Program) : Op → Nat
  | .move _ | .assign _ | .pick .. | .build .. | .nilCheck _ | .binOp .. | .unOp .. | .slice .. | .fieldAddr .. | .field .. | .indexAddr .. | .index .. | .extract .. | .makeFunc .. => 0
  | .load .. => 1
  | .convert src dst _ => match P.underlying dst with
    | some (.int _) => 0
    | some .string => 1
    | _ => if src = dst then 3 else 2
  | .alloc _ | .box .. | .buildSlice .. | .makeSlice .. => 2
  | .call c => match c.callee with
    | .builtin .len | .builtin .min | .builtin .max => 0
    | .builtin .append => if nilApp c then 2 else 3
    | _ => 3
  | _ => 3
/-- Is j always drawn ahead of i? -/
def ahead (ops : Array Oper) : Nat → Nat → Nat → Bool
  | 0, _, _ => false
  | k + 1, j, i => match ops[i]? with
    | some oi => oi.after.any fun e => Region.binds .any e && (e.on == j || ahead ops k j e.on)
    | none => false
/-- Is there a load that may come ahead of i or behind it? -/
def must (P : Program) (ops : Array Oper) (i : Nat) : Bool := (List.range ops.size).any fun j => match ops[j]? with
  | some o => eff P o.op == 1 && !ahead ops 8 j i && !ahead ops 8 i j
  | none => false
/-- A strict region asks of each call that it leaves the elder store as it is. -/
def Fine (sd m : Bool) (o : Oper) (y : AV) (st s : St) : Prop := y.solid = true ∧ (sd = true → m = true → isCall o.op = true → Steady st s)
noncomputable def astep (P : Program) (call : ACall) (sd : Bool) (ops : Array Oper) (n0 i : Nat) (fr : AFr) (st : St) : Option (AFr × St) :=
  match ops[i]? with
  | none => none
  | some o => if awanted ops fr o then
      match aop P call (n0 + i) o fr st with
      | some (y, s) => @ite _ (Fine sd (must P ops i) o y st s) (Classical.propDecidable _) (some (aput fr o.dst y, s)) none
      | none => none
    else some (aput fr o.dst (.pl undef), st)
theorem wanted_step {P : Program} {call : ACall} {sd : Bool} {ops : Array Oper} {n0 i : Nat} {o : Oper} (ho : ops[i]? = some o) {fr fr1 : AFr} {st st1 : St} (cw : awanted ops fr o = true) :
    astep P call sd ops n0 i fr st = some (fr1, st1) ↔ ∃ y, aop P call (n0 + i) o fr st = some (y, st1) ∧ Fine sd (must P ops i) o y st st1 ∧ aput fr o.dst y = fr1 := by
  unfold astep
  simp only [ho, cw, if_true]
  constructor
  · intro h
    split at h
    · rename_i y s hy
      split at h
      · rename_i hs
        simp only [Option.some.injEq, Prod.mk.injEq] at h
        obtain ⟨h1, rfl⟩ := h
        exact ⟨y, hy, hs, h1⟩
      · cases h
    · cases h
  · rintro ⟨y, h1, h2, h3⟩
    simp only [h1, h3]
    exact if_pos h2
theorem unwanted_step {P : Program} {call : ACall} {sd : Bool} {ops : Array Oper} {n0 i : Nat} {o : Oper} (ho : ops[i]? = some o) {fr : AFr} {st : St} (cw : ¬ awanted ops fr o = true) :
    astep P call sd ops n0 i fr st = some (aput fr o.dst (.pl undef), st) := by
  unfold astep
  simp only [ho]
  rw [if_neg cw]
noncomputable def arun (P : Program) (call : ACall) (sd : Bool) (ops : Array Oper) (n0 : Nat) : List Nat → AFr → St → Option (AFr × St)
  | [], fr, st => some (fr, st)
  | i :: is, fr, st => (astep P call sd ops n0 i fr st).bind fun r => arun P call sd ops n0 is r.1 r.2
def areads (P : Program) (fr : AFr) : Op → List Nat
  | .load _ x => match aeval fr x with | .ptr i _ => [i] | .pl (.pointer (some ⟨i, _, none⟩)) => if i < P.globals.size then [i] else [] | _ => []
  | .convert _ _ x => match aeval fr x with | .sl i _ n _ => if n = 0 then [] else [i] | _ => []
  | .call c => match c.args.toList with
    | [_, x] => match aeval fr x with | .sl i _ n _ => if n = 0 then [] else [i] | _ => []
    | _ => []
  | _ => []
def commPair (P : Program) (sd : Bool) (ops : Array Oper) (j i : Nat) : Bool :=
  match ops[j]?, ops[i]? with
  | some oj, some oi => ahead ops 8 j i || (oj.apart ops oi && (eff P oi.op == 0 || eff P oj.op == 0 || (decide (eff P oi.op ≤ 2) && decide (eff P oj.op ≤ 2)) || (sd && ((isCall oi.op && (must P ops i && eff P oj.op == 1)) || (isCall oj.op && (must P ops j && eff P oi.op == 1))))))
  | _, _ => false
def commOK (P : Program) (sd : Bool) (ops : Array Oper) : Bool :=
  (List.range ops.size).all fun i => ((ops[i]?).map fun o => o.after.all fun e => !Region.binds .any e || decide (e.on < i)).getD false && (List.range i).all fun j => commPair P sd ops j i
/-- It makes what is new, whatever stands in the store. -/
def newOnly (P : Program) : Op → Bool
  | .alloc _ | .buildSlice .. | .makeSlice .. => true
  | .convert src dst _ => match P.underlying src, P.underlying dst with
    | some .string, some (.slice _) => true
    | _, _ => false
  | _ => false
def commPairN (P : Program) (sd : Bool) (ops : Array Oper) (j i : Nat) : Bool :=
  commPair P sd ops j i || match ops[j]?, ops[i]? with
    | some oj, some oi => oj.apart ops oi && newOnly P oi.op
    | _, _ => false
/-- As before; and what is new may come ahead of anything, where no row is of its group. -/
def commOKN (P : Program) (sd : Bool) (ops : Array Oper) : Bool :=
  (List.range ops.size).all fun i => ((ops[i]?).map fun o => o.after.all fun e => !Region.binds .any e || decide (e.on < i)).getD false && (List.range i).all fun j => commPairN P sd ops j i
def commX (P : Program) (sd nw : Bool) (ops : Array Oper) : Bool := if nw then commOKN P sd ops else commOK P sd ops
def GW (st : St) : Prop := ∀ i o, st.get i = some o → i < st.n ∧ o.grp < st.n
/-- Is the region a strict one? -/
def sdOf (P : Program) (ops : Array Oper) (draw : Bool) : Bool := draw && !commOK P false ops
def regOK (P : Program) (ops : Array Oper) (draw : Bool) (st : St) : Prop :=
  draw = true → (commOK P (sdOf P ops draw) ops && P.follows .mixedOrders) = true ∨ ((commOKN P (sdOf P ops draw) ops && P.follows .mixedOrders) = true ∧ GW st)
noncomputable def aregion (P : Program) (call : ACall) (ops : Array Oper) (draw : Bool) (fr : AFr) (st : St) : Option (AFr × St) :=
  @ite _ (¬ regOK P ops draw st) (Classical.propDecidable _) none (arun P call (sdOf P ops draw) ops st.n (List.range ops.size) fr (st.bump ops.size))
theorem isCall_eff {P : Program} {o : Op} (h : isCall o = true) : eff P o = 3 := by
  cases o with
  | call c =>
    obtain ⟨callee, args, ats⟩ := c
    cases callee with
    | value f => rfl
    | _ => cases h
  | _ => cases h

theorem aeval_put {fr : AFr} {d : Option Tmp} {v : AV} {x : Operand} (h : ∀ t, d = some t → x ≠ .tmp t) : aeval (aput fr d v) x = aeval fr x := by
  cases d with
  | none => rfl
  | some d =>
    cases x with
    | tmp t =>
      have : t ≠ d := fun e => h d rfl (by rw [e])
      simp [aeval, aput, this]
    | _ => rfl
theorem aop_congr {P : Program} {call : ACall} {id : Nat} {o : Oper} {fr fr' : AFr} {st : St} (h : ∀ x ∈ o.op.operands, aeval fr x = aeval fr' x) : aop P call id o fr st = aop P call id o fr' st := by
  obtain ⟨dst, op, type, pos, after, guard⟩ := o
  have pairs : ∀ ps : Array (Nat × Operand), (∀ x ∈ (ps.toList.map (·.2)), aeval fr x = aeval fr' x) → (ps.toList.map fun p => (p.1, aeval fr p.2)) = (ps.toList.map fun p => (p.1, aeval fr' p.2)) := fun ps hp =>
    List.map_congr_left fun p hm => by rw [hp p.2 (List.mem_map.2 ⟨p, hm, rfl⟩)]
  have lists : ∀ xs : Array Operand, (∀ x ∈ xs, aeval fr x = aeval fr' x) → xs.toList.map (aeval fr) = xs.toList.map (aeval fr') := fun xs hp =>
    List.map_congr_left fun p hm => hp p (Array.mem_toList_iff.1 hm)
  cases op <;> simp only [Op.operands] at h <;> simp only [aop]
  case build t ps => rw [pairs ps fun x hx => h x (by simpa using hx)]
  case buildSlice t n ps => rw [pairs ps fun x hx => h x (by simpa using hx)]
  case makeFunc fn first captured =>
    cases fn <;> simp only
    rw [lists captured fun x hx => h x (by simp [hx])]
  case call c =>
    have ha := lists c.args fun x hx => h x (by simp [Call.operands, hx])
    cases hc : c.callee with
    | value f => have hf : aeval fr f = aeval fr' f := h f (by simp [Call.operands, hc]); simp only [hf, ha]
    | invoke r m => rfl
    | builtin b => simp only [ha]
  case slice t x lo hi mx => cases lo <;> cases hi <;> cases mx <;> simp_all
  all_goals (first | rfl | (simp_all; done))
theorem aop_put {P : Program} {call : ACall} {ops : Array Oper} {id : Nat} {o : Oper} {fr : AFr} {st : St} {d : Option Tmp} {v : AV} (h : ∀ t, d = some t → t ∉ o.looksAt ops) : aop P call id o (aput fr d v) st = aop P call id o fr st :=
  aop_congr fun x hx => aeval_put fun t ht e => h t ht (by
    subst e
    exact List.mem_append_left _ (List.mem_filterMap.2 ⟨.tmp t, by simpa using hx, rfl⟩))
theorem areads_put {P : Program} {ops : Array Oper} {o : Oper} {fr : AFr} {d : Option Tmp} {v : AV} (h : ∀ t, d = some t → t ∉ o.looksAt ops) : areads P (aput fr d v) o.op = areads P fr o.op := by
  have key : ∀ x ∈ o.op.operands, aeval (aput fr d v) x = aeval fr x := fun x hx => aeval_put fun t ht e => h t ht (by
    subst e
    exact List.mem_append_left _ (List.mem_filterMap.2 ⟨.tmp t, by simpa using hx, rfl⟩))
  cases hop : o.op with
  | load t x => simp only [areads]; rw [key x (by simp [hop, Op.operands])]
  | convert a b x => simp only [areads]; rw [key x (by simp [hop, Op.operands])]
  | call c =>
    simp only [areads]
    split
    · rename_i q x hq
      rw [key x (by simp only [hop, Op.operands, Call.operands]; simp [← Array.mem_toList_iff, hq])]
    · rfl
  | _ => rfl
theorem awanted_put {ops : Array Oper} {o : Oper} {fr : AFr} {d : Option Tmp} {v : AV} (h : ∀ t, d = some t → t ∉ o.looksAt ops) : awanted ops (aput fr d v) o = awanted ops fr o := by
  unfold awanted
  cases hg : o.guard with
  | none => rfl
  | some gw =>
    obtain ⟨g, want⟩ := gw
    cases ht : (ops[g]?).bind (·.dst) with
    | none => simp only [ht]
    | some t =>
      simp only [ht]
      cases d with
      | none => rfl
      | some d =>
        have : t ≠ d := fun e => h d rfl (by subst e; simp [Oper.looksAt, hg, ht])
        simp [aput, this]
theorem aput_comm (fr : AFr) {x y : Option Tmp} (v u : AV) (h : ∀ d, x = some d → y ≠ some d) : aput (aput fr x v) y u = aput (aput fr y u) x v := by
  cases x with
  | none => rfl
  | some d =>
    cases y with
    | none => rfl
    | some e =>
      have hne : d ≠ e := fun he => h d rfl (he ▸ rfl)
      funext t
      by_cases h1 : t = d
      · subst h1; simp [aput, hne]
      · by_cases h2 : t = e
        · subst h2; simp [aput, h1]
        · simp [aput, h1, h2]
theorem put_comm_st (st : St) {i j : Nat} (o o' : AObj) (h : i ≠ j) : (st.put i o).put j o' = (st.put j o').put i o := by
  simp only [St.put, St.mk.injEq, true_and, and_true]
  funext k
  by_cases h1 : k = i
  · subst h1; simp [h]
  · simp [h1]
/-- An operation that does no more than read or make. -/
theorem aop_light {P : Program} {call : ACall} {id : Nat} {o : Oper} {fr : AFr} {st st' : St} {y : AV} (he : eff P o.op ≤ 2) (h : aop P call id o fr st = some (y, st')) :
    ∃ f : St → St, (f = (fun s => s) ∨ (eff P o.op = 2 ∧ ∃ ob, f = fun s => s.put id ob)) ∧ st' = f st ∧ (eff P o.op ≠ 0 → ∀ k ∈ areads P fr o.op, st.get k ≠ none) ∧
      ∀ st2, (eff P o.op ≠ 0 → ∀ k ∈ areads P fr o.op, st2.get k = st.get k) → aop P call id o fr st2 = some (y, f st2) := by
  have quiet : ∀ (z : Option AV), eff P o.op = 0 → (∀ s, aop P call id o fr s = z.map fun v => (v, s)) → ∃ f : St → St, (f = (fun s => s) ∨ (eff P o.op = 2 ∧ ∃ ob, f = fun s => s.put id ob)) ∧ st' = f st ∧ (eff P o.op ≠ 0 → ∀ k ∈ areads P fr o.op, st.get k ≠ none) ∧
      ∀ st2, (eff P o.op ≠ 0 → ∀ k ∈ areads P fr o.op, st2.get k = st.get k) → aop P call id o fr st2 = some (y, f st2) := by
    intro z h0 hz
    rw [hz] at h
    obtain ⟨v, rfl, hv⟩ := Option.map_eq_some_iff.1 h
    simp only [Prod.mk.injEq] at hv
    obtain ⟨rfl, rfl⟩ := hv
    exact ⟨fun s => s, .inl rfl, rfl, fun h1 => absurd h0 h1, fun st2 _ => by rw [hz]; rfl⟩
  have made : ∀ (z : Option (AV × AObj)), eff P o.op = 2 → areads P fr o.op = [] → (∀ s, aop P call id o fr s = z.map fun v => (v.1, s.put id v.2)) → ∃ f : St → St, (f = (fun s => s) ∨ (eff P o.op = 2 ∧ ∃ ob, f = fun s => s.put id ob)) ∧ st' = f st ∧ (eff P o.op ≠ 0 → ∀ k ∈ areads P fr o.op, st.get k ≠ none) ∧
      ∀ st2, (eff P o.op ≠ 0 → ∀ k ∈ areads P fr o.op, st2.get k = st.get k) → aop P call id o fr st2 = some (y, f st2) := by
    intro z h0 hr hz
    rw [hz] at h
    obtain ⟨v, rfl, hv⟩ := Option.map_eq_some_iff.1 h
    simp only [Prod.mk.injEq] at hv
    obtain ⟨rfl, rfl⟩ := hv
    exact ⟨fun s => s.put id v.2, .inr ⟨h0, v.2, rfl⟩, rfl, fun h1 k hk => (by rw [hr] at hk; cases hk), fun st2 _ => by rw [hz]; rfl⟩
  obtain ⟨dst, op, type, pos, after, guard⟩ := o
  cases op with
  | move x => exact quiet (some (aeval fr x)) rfl fun s => rfl
  | assign x => exact quiet (some (aeval fr x)) rfl fun s => rfl
  | pick c a b =>
    refine quiet (match aeval fr c with | .pl (.bool t) => some (if t then aeval fr a else aeval fr b) | _ => none) rfl fun s => ?_
    simp only [aop]
    repeat' split
    all_goals first | rfl | (simp only [Option.map_map]; rfl) | (simp_all; done) | (simp_all [Function.comp_def]; done) | (simp_all; rfl)
  | nilCheck x =>
    refine quiet (match aeval fr x with | .ptr i off => some (.ptr i off) | .fn f cs => some (.fn f cs) | _ => none) rfl fun s => ?_
    simp only [aop]
    repeat' split
    all_goals first | rfl | (simp only [Option.map_map]; rfl) | (simp_all; done) | (simp_all [Function.comp_def]; done) | (simp_all; rfl)
  | binOp b t x z ty => exact quiet ((abin P b t (aeval fr x) (aeval fr z)).map .pl) rfl fun s => by simp only [aop, Option.map_map]; rfl
  | unOp b t x => exact quiet ((aun b (aeval fr x)).map .pl) rfl fun s => by simp only [aop, Option.map_map]; rfl
  | slice t x lo hi mx =>
    refine quiet (if mx.isNone then aslice P t (aeval fr x) (lo.map (aeval fr)) (hi.map (aeval fr)) else none) rfl fun s => ?_
    simp only [aop]
    repeat' split
    all_goals first | rfl | (simp only [Option.map_map]; rfl) | (simp_all; done) | (simp_all [Function.comp_def]; done) | (simp_all; rfl)
  | fieldAddr t x f => exact quiet (afieldAddr P t (aeval fr x) f) rfl fun s => rfl
  | indexAddr t x ix => exact quiet (aindexAddr P t (aeval fr x) (aeval fr ix)) rfl fun s => rfl
  | field t x f =>
    refine quiet (match P.underlying t, aeval fr x with
      | some (.struct fs), .agg xs => match fs[f]? with
        | some fd => apart_ P fd.type xs fd.offset
        | none => none
      | _, _ => none) rfl fun s => ?_
    simp only [aop]
    repeat' split
    all_goals first | rfl | (simp only [Option.map_map]; rfl) | (simp_all; done) | (simp_all [Function.comp_def]; done) | (simp_all; rfl)
  | index t x ix => exact quiet (aindex P t (aeval fr x) (aeval fr ix)) rfl fun s => rfl
  | extract x ix =>
    refine quiet (match aeval fr x with | .tup xs => xs[ix]? | _ => none) rfl fun s => ?_
    simp only [aop]
    repeat' split
    all_goals first | rfl | (simp only [Option.map_map]; rfl) | (simp_all; done) | (simp_all [Function.comp_def]; done) | (simp_all; rfl)
  | build t ps => exact quiet (abuild P t (ps.toList.map fun p => (p.1, aeval fr p.2))) rfl fun s => rfl
  | makeFunc fn first captured =>
    cases fn with
    | func f =>
      refine quiet (if first.isEmpty then some (.fn f (captured.toList.map (aeval fr))) else none) rfl fun s => ?_
      simp only [aop]
      repeat' split
      all_goals first | rfl | (simp only [Option.map_map]; rfl) | (simp_all; done) | (simp_all [Function.comp_def]; done) | (simp_all; rfl)
    | _ => simp [aop] at h
  | load t x =>
    simp only [aop] at h ⊢
    obtain ⟨v, hv, hyy⟩ := Option.map_eq_some_iff.1 h
    simp only [Prod.mk.injEq] at hyy
    obtain ⟨rfl, rfl⟩ := hyy
    have hx : ∃ i off, (aeval fr x = .ptr i off ∨ (aeval fr x = .pl (.pointer (some ⟨i, off, none⟩)) ∧ i < P.globals.size)) ∧ st.get i ≠ none := by
      unfold aload at hv
      split at hv
      · rename_i i off hx
        refine ⟨i, off, .inl hx, fun e => ?_⟩
        rw [e] at hv
        cases hv
      · rename_i i off hx
        split at hv
        case isFalse => cases hv
        rename_i hi
        refine ⟨i, off, .inr ⟨hx, hi⟩, fun e => ?_⟩
        rw [e] at hv
        cases hv
      · cases hv
    obtain ⟨i, off, hx, hlive⟩ := hx
    have hrd : areads P fr (.load t x) = [i] := by
      rcases hx with hx | ⟨hx, hi⟩
      · simp only [areads, hx]
      · simp only [areads, hx, hi, if_true]
    refine ⟨fun s => s, .inl rfl, rfl, fun _ k hk => ?_, fun st2 hst => ?_⟩
    · rw [hrd, List.mem_singleton] at hk
      rw [hk]
      exact hlive
    · have := hst (by simp [eff]) i (by rw [hrd]; simp)
      have e : aload P st2 t (aeval fr x) = aload P st t (aeval fr x) := by
        rcases hx with hx | ⟨hx, hi⟩
        · rw [hx]
          simp only [aload, this]
        · rw [hx]
          simp only [aload, this]
      rw [e, hv]
      rfl
  | convert src dt x =>
    simp only [aop] at h ⊢
    unfold aconvert at h
    split at h
    · rename_i d k k2 n hs hd hx
      simp only [Option.some.injEq, Prod.mk.injEq] at h
      obtain ⟨rfl, rfl⟩ := h
      have h0 : eff P (.convert src dt x) = 0 := by simp only [eff, hd]
      exact ⟨fun s => s, .inl rfl, rfl, fun h1 => absurd h0 h1, fun st2 _ => by simp only [aconvert, hs, hd, hx]⟩
    · rename_i e s hs hd hx
      split at h
      case h_2 => cases h
      rename_i hE hsz
      split at h
      case isFalse => cases h
      rename_i hm
      simp only [Option.some.injEq, Prod.mk.injEq] at h
      obtain ⟨rfl, rfl⟩ := h
      have hne : src ≠ dt := fun e => by rw [e, hd] at hs; cases hs
      have h0 : eff P (.convert src dt x) = 2 := by simp only [eff, hd]; rw [if_neg hne]
      exact ⟨fun s' => s'.put id ⟨s.data.toList.map fun b => .pl (.int .u8 b.toNat), e, false, id⟩, .inr ⟨h0, _, rfl⟩, rfl, fun h1 k hk => (by simp [areads, hx] at hk), fun st2 _ => by simp only [aconvert, hs, hd, hx, hE, hsz, hm, if_true]⟩
    · rename_i e i off len es hs hd hx
      split at h
      case h_2 => cases h
      rename_i ob hE hob
      split at h
      case isFalse => cases h
      rename_i hl
      obtain ⟨ns, hns, hyy⟩ := Option.map_eq_some_iff.1 h
      simp only [Prod.mk.injEq] at hyy
      obtain ⟨rfl, rfl⟩ := hyy
      have h0 : eff P (.convert src dt x) = 1 := by simp only [eff, hd]
      refine ⟨fun s => s, .inl rfl, rfl, fun _ k hk => ?_, fun st2 hst => ?_⟩
      · simp only [areads, hx] at hk
        split at hk
        · cases hk
        · rename_i hz
          simp only [List.mem_singleton] at hk
          rw [if_neg hz] at hob
          rw [hk, hob]
          simp
      · by_cases hz : len = 0
        · rw [if_pos hz] at hob
          simp only [aconvert, hs, hd, hx, hE, if_pos hz, hob, hl, if_true, hns, Option.map_some]
        · have := hst (by rw [h0]; decide) i (by simp [areads, hx, hz])
          rw [if_neg hz] at hob
          simp only [aconvert, hs, hd, hx, hE, if_neg hz, this, hob, hl, if_true, hns, Option.map_some]
    · rename_i e hs hd hx
      split at h
      case h_2 => cases h
      rename_i hE
      simp only [Option.some.injEq, Prod.mk.injEq] at h
      obtain ⟨rfl, rfl⟩ := h
      have h0 : eff P (.convert src dt x) = 1 := by simp only [eff, hd]
      exact ⟨fun s => s, .inl rfl, rfl, fun _ k hk => by simp [areads, hx] at hk, fun st2 _ => by simp only [aconvert, hs, hd, hx, hE]⟩
    · rename_i e0 e hs hd
      split at h
      case isFalse => cases h
      rename_i hsd
      have h0 : eff P (.convert src dt x) = 3 := by simp only [eff, hd]; rw [if_pos hsd]
      rw [h0] at he
      exact absurd he (by decide)
    · cases h
  | alloc e =>
    refine made (match zcells P e, szOf P e with | some cs, some s => some (.ptr id 0, ⟨cs, e, true, id⟩) | _, _ => none) rfl rfl fun s => ?_
    simp only [aop]
    repeat' split
    all_goals first | rfl | (simp only [Option.map_map]; rfl) | (simp_all; done) | (simp_all [Function.comp_def]; done) | (simp_all; rfl)
  | box e x =>
    refine made (match szOf P e with | some s => if (aeval fr x).solid then some (.ptr id 0, ⟨(aeval fr x).cells, e, true, id⟩) else none | none => none) rfl rfl fun s => ?_
    simp only [aop]
    repeat' split
    all_goals first | rfl | (simp only [Option.map_map]; rfl) | (simp_all; done) | (simp_all [Function.comp_def]; done) | (simp_all; rfl)
  | buildSlice t len ps => exact made (abuildSlice P t id len (ps.toList.map fun p => (p.1, aeval fr p.2))) rfl rfl fun s => rfl
  | makeSlice t l c => exact made (amakeSlice P t id (aeval fr l) (aeval fr c)) rfl rfl fun s => rfl
  | call c =>
    obtain ⟨callee, args, ats⟩ := c
    cases callee with
    | builtin b =>
      cases b <;> first
        | (simp [eff] at he; done)
        | skip
      · have hn : nilApp ⟨.builtin .append, args, ats⟩ = true := by
          cases hq : nilApp ⟨.builtin .append, args, ats⟩ with
          | true => rfl
          | false => simp only [eff, hq] at he; exact absurd he (by decide)
        have h2 : eff P (.call ⟨.builtin .append, args, ats⟩) = 2 := by simp only [eff, hn]; rfl
        have hq : ∃ x, args.toList = [.const (.slice none 0 0), x] := by
          unfold nilApp at hn
          split at hn
          · rename_i x hcl hx; exact ⟨x, hx⟩
          · cases hn
        obtain ⟨x, hx⟩ := hq
        have hop : ∀ s, aop P call id ⟨dst, .call ⟨.builtin .append, args, ats⟩, type, pos, after, guard⟩ fr s = if ats = #[ats.getD 0 0, ats.getD 0 0] then aappend P s id (ats.getD 0 0) (.pl (.slice none 0 0)) (aeval fr x) else none := fun s => by
          simp only [aop, abuiltin, hx, List.map_cons, List.map_nil, aeval]
        rw [hop] at h
        split at h
        case isFalse => cases h
        rename_i hats
        have hsr : ∀ (size : Nat) (nm : List AV × Nat), asrc P st size (aeval fr x) = some nm → (∀ k ∈ areads P fr (.call ⟨.builtin .append, args, ats⟩), st.get k ≠ none) ∧ ∀ st2 : St, (∀ k ∈ areads P fr (.call ⟨.builtin .append, args, ats⟩), st2.get k = st.get k) → asrc P st2 size (aeval fr x) = some nm := by
          intro size nm hs
          simp only [areads, hx]
          cases hv : aeval fr x with
          | sl j off m es =>
            simp only [hv, asrc] at hs ⊢
            by_cases h0 : m = 0
            · simp only [h0, if_true] at hs ⊢
              exact ⟨fun k hk => (by cases hk), fun st2 _ => hs⟩
            · simp only [h0, if_false] at hs ⊢
              refine ⟨fun k hk => ?_, fun st2 h2 => ?_⟩
              · simp only [List.mem_singleton] at hk
                intro e
                rw [hk] at e
                rw [e] at hs
                cases hs
              · rw [h2 j (by simp)]
                exact hs
          | pl v =>
            rw [hv] at hs
            refine ⟨fun k hk => (by cases hk), fun st2 _ => ?_⟩
            rw [← hs]
            cases v with
            | slice q n c => cases n <;> rfl
            | _ => rfl
          | _ => simp [hv, asrc] at hs
        unfold aappend at h
        split at h
        case h_2 => cases h
        rename_i e hu
        split at h
        case h_2 => cases h
        rename_i ti hti
        split at h
        case h_2 => cases h
        rename_i news m hsrc
        obtain ⟨k1, k2⟩ := hsr _ _ hsrc
        simp only at h
        by_cases h0 : m = 0
        · rw [if_pos h0] at h
          simp only [Option.some.injEq, Prod.mk.injEq] at h
          obtain ⟨rfl, rfl⟩ := h
          refine ⟨fun s => s, .inl rfl, rfl, fun _ => k1, fun st2 hst => ?_⟩
          rw [hop, if_pos hats]
          simp only [aappend, hu, hti, k2 st2 (hst (by rw [h2]; decide)), h0, if_true]
        · rw [if_neg h0] at h
          split at h
          case isFalse => cases h
          rename_i hc
          simp only [Option.some.injEq, Prod.mk.injEq] at h
          obtain ⟨rfl, rfl⟩ := h
          refine ⟨fun s => s.put id ⟨news, e, true, id⟩, .inr ⟨h2, _, rfl⟩, rfl, fun _ => k1, fun st2 hst => ?_⟩
          rw [hop, if_pos hats]
          simp only [aappend, hu, hti, k2 st2 (hst (by rw [h2]; decide))]
          rw [if_neg h0, if_pos hc]
      · exact quiet (alen P ats (args.toList.map (aeval fr))) rfl fun s => rfl
      · exact quiet (amax (args.toList.map (aeval fr))) rfl fun s => rfl
      · exact quiet (amin (args.toList.map (aeval fr))) rfl fun s => rfl
    | _ => simp [eff] at he
  | _ => simp [eff] at he
end Go.Proofs.YtjpgpkkbmoehdaaDoor.Ra
