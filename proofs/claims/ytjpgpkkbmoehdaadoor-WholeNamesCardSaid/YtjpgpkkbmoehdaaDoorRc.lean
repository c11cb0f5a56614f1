/- The operations, by names. -/
import Derived.Test.YtjpgpkkbmoehdaaDoorRb
namespace Go.Proofs.YtjpgpkkbmoehdaaDoor.Ra
open Go Go.RowKit
set_option linter.unusedVariables false
set_option linter.unusedSimpArgs false

def aggD : TypeDesc → Bool
  | .struct _ | .array .. => true
  | _ => false
def szOf (P : Program) (t : TypeId) : Option Nat := (P.info? t).map (·.size)
def zcells (P : Program) (t : TypeId) : Option (List AV) := ((P.info? t).bind (·.zero)).map fun z => z.cells.toList.map .pl
def splice (xs : List AV) (off : Nat) (ys : List AV) : List AV := xs.take off ++ ys ++ xs.drop (off + ys.length)
def afill (place : Nat → Option (Nat × Nat)) (cells : List AV) : List (Nat × AV) → Option (List AV)
  | [] => some cells
  | (i, v) :: rest => match place i with
    | none => none
    | some (off, size) => if v.solid ∧ v.cells.length = size ∧ off + v.cells.length ≤ cells.length then afill place (splice cells off v.cells) rest else none
def apart_ (P : Program) (t : TypeId) (cs : List AV) (off : Nat) : Option AV :=
  match P.underlying t, szOf P t with
  | some d, some s => if aggD d then some (.agg ((cs.drop off).take s)) else cs[off]?
  | _, _ => none
def aload (P : Program) (st : St) (t : TypeId) : AV → Option AV
  | .ptr i off => match st.get i with
    | some o => match P.underlying t, szOf P t with
      | some d, some s => if aggD d then (if off + s ≤ o.cells.length then some (.agg ((o.cells.drop off).take s)) else none) else o.cells[off]?
      | _, _ => none
    | none => none
  | .pl (.pointer (some ⟨i, off, none⟩)) => if i < P.globals.size then (match st.get i with
    | some o => match P.underlying t, szOf P t with
      | some d, some s => if aggD d then (if off + s ≤ o.cells.length then some (.agg ((o.cells.drop off).take s)) else none) else o.cells[off]?
      | _, _ => none
    | none => none) else none
  | _ => none
def astore (P : Program) (st : St) (t : TypeId) (v : AV) : AV → Option St
  | .ptr i off => match st.get i with
    | some o => match szOf P t with
      | some s => if o.own ∧ v.cells.length = s ∧ off + s ≤ o.cells.length ∧ v.solid ∧ v.cells.all AV.one then some ((st.touch o.grp off s).put i { o with cells := splice o.cells off v.cells }) else none
      | none => none
    | none => none
  | _ => none
def aintBin (op : BinOp) (k : IntKind) (a b : Int) : Option Value :=
  match op with
  | .add => some (.int k (k.wrap (a + b)))
  | .sub => some (.int k (k.wrap (a - b)))
  | .mul => some (.int k (k.wrap (a * b)))
  | .quo => if b = 0 then none else some (.int k (k.wrap (a.tdiv b)))
  | .rem => if b = 0 then none else some (.int k (a.tmod b))
  | .and => some (.int k (bits .and k a b))
  | .or => some (.int k (bits .or k a b))
  | .xor => some (.int k (bits .xor k a b))
  | .andNot => some (.int k (bits .andNot k a b))
  | .eql => some (.bool (a == b))
  | .neq => some (.bool (a != b))
  | .lss => some (.bool (decide (a < b)))
  | .leq => some (.bool (decide (a ≤ b)))
  | .gtr => some (.bool (decide (a > b)))
  | .geq => some (.bool (decide (a ≥ b)))
  | .shl => if b < 0 then none else some (.int k (k.wrap (a * 2 ^ (min b.toNat k.bits))))
  | .shr => if b < 0 then none else some (.int k (a.fdiv (2 ^ (min b.toNat k.bits))))
def astrBin (op : BinOp) (a b : ByteArray) : Option Value :=
  match op with
  | .add => if ((a.size + b.size : Nat) : Int) > IntKind.i64.max then none else some (.string (a ++ b))
  | .eql => some (.bool (a.toList == b.toList))
  | .neq => some (.bool !(a.toList == b.toList))
  | .lss => some (.bool (Op.bytesLess a.toList b.toList))
  | .leq => some (.bool (Op.bytesLess a.toList b.toList || a.toList == b.toList))
  | .gtr => some (.bool !(Op.bytesLess a.toList b.toList || a.toList == b.toList))
  | .geq => some (.bool !(Op.bytesLess a.toList b.toList))
  | _ => none
def aeqOp (op : BinOp) (b : Bool) : Option Value :=
  match op with
  | .eql => some (.bool b)
  | .neq => some (.bool !b)
  | _ => none
def isBoolD : Option TypeDesc → Bool | some .bool => true | _ => false
def isPtrD : Option TypeDesc → Bool | some (.pointer _) => true | _ => false
def isSliceD : Option TypeDesc → Bool | some (.slice _) => true | _ => false
def isStrD : Option TypeDesc → Bool | some .string => true | _ => false
/-- Are structs of numbers alike, field by field? -/
def aeqF (P : Program) (xs ys : List AV) : List Field → Option Bool
  | [] => some true
  | f :: fs => if f.name ≠ "_" then (match P.underlying f.type, xs[f.offset]?, ys[f.offset]? with
      | some (.int _), some (.pl (.int k a)), some (.pl (.int k' b)) => if k = k' then (if (a == b) = true then aeqF P xs ys fs else some false) else none
      | _, _, _ => none) else aeqF P xs ys fs
def aeqS (P : Program) (t : TypeId) (xs ys : List AV) : Option Bool :=
  match P.underlying t with
  | some (.struct fs) => if P.stoodInHeld t = false ∧ P.eqGuardType P.depth t = false then aeqF P xs ys fs.toList else none
  | _ => none
def abin (P : Program) (op : BinOp) (t : TypeId) : AV → AV → Option Value
  | .pl (.int k a), .pl (.int k' b) => if k = k' ∨ op = .shl ∨ op = .shr then aintBin op k a b else none
  | .pl (.string a), .pl (.string b) => astrBin op a b
  | .pl (.bool a), .pl (.bool b) => if isBoolD (P.underlying t) then aeqOp op (a == b) else none
  | .ptr _ _, .pl (.pointer none) => if isPtrD (P.underlying t) then aeqOp op false else none
  | .pl (.pointer none), .pl (.pointer none) => if isPtrD (P.underlying t) then aeqOp op true else none
  | .sl _ _ _ _, .pl (.slice none _ _) => if isSliceD (P.underlying t) then aeqOp op false else none
  | .pl (.slice q _ _), .pl (.slice none _ _) => if isSliceD (P.underlying t) then aeqOp op q.isNone else none
  | .agg xs, .agg ys => (aeqS P t xs ys).bind (aeqOp op)
  | _, _ => none
def aun (op : UnOp) : AV → Option Value
  | .pl (.int k n) => match op with
    | .neg => some (.int k (k.wrap (0 - n)))
    | .xor => some (.int k (bits .xor k (if k.signed then -1 else k.max) n))
    | _ => none
  | .pl (.bool b) => match op with
    | .not => some (.bool !b)
    | _ => none
  | _ => none
/-- The bounds of a cut. -/
def alow (h : Nat) : Option AV → Option Nat
  | none => some 0
  | some (.pl (.int _ n)) => if 0 ≤ n ∧ n ≤ h then some n.toNat else none
  | _ => none
def ahigh (len : Nat) : Option AV → Option Nat
  | none => some len
  | some (.pl (.int _ n)) => if 0 ≤ n ∧ n ≤ len then some n.toNat else none
  | _ => none
def aslice (P : Program) (t : TypeId) (x : AV) (lo hi : Option AV) : Option AV :=
  match P.underlying t, x with
  | some (.slice e), .sl i off len es => match szOf P e, ahigh len hi with
    | some s, some h => match alow h lo with
      | some l => if es = 0 ∨ es = s then some (.sl i (off + l * s) (h - l) es) else none
      | none => none
    | _, _ => none
  | some (.slice e), .pl (.slice q 0 c) => match szOf P e, ahigh 0 hi with
    | some s, some h => match alow h lo with
      | some l => some (.pl (.slice q 0 c))
      | none => none
    | _, _ => none
  | some .string, .pl (.string s) => match ahigh s.size hi with
    | some h => match alow h lo with
      | some l => some (.pl (.string (s.extract l h)))
      | none => none
    | none => none
  | _, _ => none
def aindexAddr (P : Program) (t : TypeId) (x ix : AV) : Option AV :=
  match P.underlying t, x, ix with
  | some (.slice e), .sl i off len _, .pl (.int _ n) => if 0 ≤ n ∧ n < len then (szOf P e).map fun s => .ptr i (off + n.toNat * s) else none
  | some (.array len e), .ptr i off, .pl (.int _ n) => if 0 ≤ n ∧ n < len then (szOf P e).map fun s => .ptr i (off + n.toNat * s) else none
  | some (.array len e), .pl (.pointer (some ⟨i, off, none⟩)), .pl (.int _ n) => if 0 ≤ n ∧ n < len then (szOf P e).map fun s => .pl (.pointer (some ⟨i, off + n.toNat * s, none⟩)) else none
  | _, _, _ => none
def afieldAddr (P : Program) (t : TypeId) (x : AV) (f : Nat) : Option AV :=
  match P.underlying t, x with
  | some (.struct fs), .ptr i off => match fs[f]? with
    | some fd => match szOf P fd.type with
      | some s => if s = 0 then none else some (.ptr i (off + fd.offset))
      | none => none
    | none => none
  | _, _ => none
/-- The bytes of a slice, if they are bytes. -/
def anum : AV → Option Int
  | .pl (.int .u8 n) => some n
  | _ => none
/-- What is put behind: the cells, and how many elements. -/
def asrc (P : Program) (st : St) (size : Nat) : AV → Option (List AV × Nat)
  | .sl j off m _ => if m = 0 then some ([], 0) else match st.get j with
    | some o => if off + m * size ≤ o.cells.length then some ((o.cells.drop off).take (m * size), m) else none
    | none => none
  | .pl (.slice _ 0 _) => some ([], 0)
  | _ => none
def aappend (P : Program) (st : St) (id : Nat) (t : TypeId) (s x : AV) : Option (AV × St) :=
  match P.underlying t with
  | some (.slice e) => match P.info? e with
    | some i => match asrc P st i.size x with
      | some (news, m) => match s with
        | .sl j off len es => match st.get j with
          | some o => if o.own ∧ o.elem = e ∧ 0 < i.size ∧ (i.zero.map (·.cells.size)) = some i.size ∧ off + len * i.size = o.cells.length ∧ (len + m) * i.bytes ≤ 140737488355328 ∧ len + m ≤ maxLen ∧ news.all AV.one then some (.sl id 0 (len + m) i.size, if off = 0 then (st.touch o.grp (len * i.size) (m * i.size)).put id ⟨o.cells ++ news, e, true, o.grp⟩ else (st.kill o.grp).put id ⟨o.cells.drop off ++ news, e, true, id⟩) else none
          | none => none
        | .pl (.slice none 0 0) => if m = 0 then some (.pl (.slice none 0 0), st) else
            if 0 < i.size ∧ (i.zero.map (·.cells.size)) = some i.size ∧ m * i.bytes ≤ 140737488355328 ∧ m ≤ maxLen ∧ news.all AV.one then some (.sl id 0 m i.size, st.put id ⟨news, e, true, id⟩) else none
        | _ => none
      | none => none
    | none => none
  | _ => none
def alen (P : Program) (ts : Array TypeId) : List AV → Option AV
  | [.sl _ _ n _] => if isSliceD ((ts[0]?).bind P.underlying) then some (.pl (.int .i64 n)) else none
  | [.pl (.slice _ n _)] => if isSliceD ((ts[0]?).bind P.underlying) then some (.pl (.int .i64 n)) else none
  | [.pl (.string s)] => if isStrD ((ts[0]?).bind P.underlying) then some (.pl (.int .i64 s.size)) else none
  | _ => none
def amin : List AV → Option AV
  | [.pl (.int k x), .pl (.int _ y)] => some (.pl (.int k (if y < x then y else x)))
  | _ => none
def amax : List AV → Option AV
  | [.pl (.int k x), .pl (.int _ y)] => some (.pl (.int k (if y > x then y else x)))
  | _ => none
def abuiltin (P : Program) (st : St) (id : Nat) (b : Builtin) (ts : Array TypeId) (args : List AV) : Option (AV × St) :=
  match b with
  | .len => (alen P ts args).map fun v => (v, st)
  | .min => (amin args).map fun v => (v, st)
  | .max => (amax args).map fun v => (v, st)
  | .append => match args with
    | [s, x] => if ts = #[ts.getD 0 0, ts.getD 0 0] then aappend P st id (ts.getD 0 0) s x else none
    | _ => none
  | _ => none
/-- A slice of bytes made a slice of bytes: its row is marked. -/
def amark (P : Program) (st : St) (id : Nat) (e : TypeId) : AV → Option (AV × St)
  | .sl i off len _ => match P.underlying e, st.get i with
    | some (.int .u8), some o => if o.own then some (.sl id off len 0, (st.kill o.grp).put id ⟨o.cells, o.elem, false, id⟩) else none
    | _, _ => none
  | _ => none
def aconvert (P : Program) (st : St) (id : Nat) (src dst : TypeId) (x : AV) : Option (AV × St) :=
  match P.underlying src, P.underlying dst, x with
  | some _, some (.int k), .pl (.int _ n) => some (.pl (.int k (k.wrap n)), st)
  | some .string, some (.slice e), .pl (.string s) => match P.underlying e, szOf P e with
    | some (.int .u8), some 1 => if s.size ≤ maxLen then some (.sl id 0 s.size 0, st.put id ⟨s.data.toList.map fun b => .pl (.int .u8 b.toNat), e, false, id⟩) else none
    | _, _ => none
  | some (.slice e), some .string, .sl i off len _ => match P.underlying e, (if len = 0 then some ⟨[], 0, false, 0⟩ else st.get i) with
    | some (.int .u8), some o => if len = 0 ∨ off + len ≤ o.cells.length then (((o.cells.drop off).take len).mapM anum).map fun ns => (.pl (.string (ns.foldl (fun r n => r.push (UInt8.ofNat n.toNat)) ByteArray.empty)), st) else none
    | _, _ => none
  | some (.slice e), some .string, .pl (.slice _ 0 _) => match P.underlying e with
    | some (.int .u8) => some (.pl (.string .empty), st)
    | _ => none
  | some (.slice _), some (.slice e), x => if src = dst then amark P st id e x else none
  | _, _, _ => none
def abuild (P : Program) (t : TypeId) (ps : List (Nat × AV)) : Option AV :=
  match P.underlying t, zcells P t with
  | some (.struct fs), some z => if fs.all (fun f : Field => (szOf P f.type).isSome) then (afill (fun i : Nat => (fs[i]?).bind fun f : Field => (szOf P f.type).map fun s => (f.offset, s)) z ps).map .agg else none
  | _, _ => none
def abuildSlice (P : Program) (t : TypeId) (id len : Nat) (ps : List (Nat × AV)) : Option (AV × AObj) :=
  match P.underlying t with
  | some (.slice e) => match szOf P e, (P.info? e).bind (·.zero) with
    | some s, some z => if 0 < s ∧ len * s ≤ 2 ^ 24 ∧ len ≤ maxLen ∧ z.cells.size = s then (afill (fun i => some (i * s, s)) (((Array.range (len * s)).map (z.cells[· % z.cells.size]!)).toList.map .pl) ps).map fun cs => (.sl id 0 len s, ⟨cs, e, true, id⟩) else none
    | _, _ => none
  | _ => none
def aindex (P : Program) (t : TypeId) (x ix : AV) : Option AV :=
  match P.underlying t, x, ix with
  | some .string, .pl (.string s), .pl (.int _ n) => if 0 ≤ n then (s[n.toNat]?).map fun b => .pl (.int .u8 b.toNat) else none
  | _, _, _ => none
def amakeSlice (P : Program) (t : TypeId) (id : Nat) (l c : AV) : Option (AV × AObj) :=
  match P.underlying t, l, c with
  | some (.slice e), .pl (.int _ n), .pl (.int _ m) => match P.info? e with
    | some i => match i.zero with
      | some z => if 0 < i.size ∧ n = m ∧ 0 ≤ n ∧ (i.bytes : Int) * n ≤ 281474976710656 ∧ n ≤ 9223372036854775807 then some (.sl id 0 n.toNat i.size, ⟨(madeCells z.cells (n.toNat * i.size)).toList.map .pl, e, true, id⟩) else none
      | none => none
    | none => none
  | _, _, _ => none
def aop (P : Program) (call : ACall) (id : Nat) (o : Oper) (fr : AFr) (st : St) : Option (AV × St) :=
  match o.op with
  | .move x | .assign x => some (aeval fr x, st)
  | .pick c a b => match aeval fr c with
    | .pl (.bool t) => some (if t then aeval fr a else aeval fr b, st)
    | _ => none
  | .alloc e => match zcells P e, szOf P e with
    | some cs, some s => some (.ptr id 0, st.put id ⟨cs, e, true, id⟩)
    | _, _ => none
  | .box e x => match szOf P e with
    | some s => if (aeval fr x).solid then some (.ptr id 0, st.put id ⟨(aeval fr x).cells, e, true, id⟩) else none
    | none => none
  | .build t parts => (abuild P t (parts.toList.map fun p => (p.1, aeval fr p.2))).map fun v => (v, st)
  | .buildSlice t len parts => (abuildSlice P t id len (parts.toList.map fun p => (p.1, aeval fr p.2))).map fun r => (r.1, st.put id r.2)
  | .makeSlice t l c => (amakeSlice P t id (aeval fr l) (aeval fr c)).map fun r => (r.1, st.put id r.2)
  | .load t x => (aload P st t (aeval fr x)).map fun v => (v, st)
  | .store t x v => (astore P st t (aeval fr v) (aeval fr x)).map fun st' => (.pl undef, st')
  | .nilCheck x => match aeval fr x with
    | .ptr i off => some (.ptr i off, st)
    | .fn f cs => some (.fn f cs, st)
    | _ => none
  | .binOp op t x y _ => (abin P op t (aeval fr x) (aeval fr y)).map fun v => (.pl v, st)
  | .unOp op _ x => (aun op (aeval fr x)).map fun v => (.pl v, st)
  | .convert src dst x => aconvert P st id src dst (aeval fr x)
  | .slice t x lo hi mx => if mx.isNone then (aslice P t (aeval fr x) (lo.map (aeval fr)) (hi.map (aeval fr))).map fun v => (v, st) else none
  | .fieldAddr t x f => (afieldAddr P t (aeval fr x) f).map fun v => (v, st)
  | .field t x f => match P.underlying t, aeval fr x with
    | some (.struct fs), .agg xs => match fs[f]? with
      | some fd => (apart_ P fd.type xs fd.offset).map fun v => (v, st)
      | none => none
    | _, _ => none
  | .indexAddr t x ix => (aindexAddr P t (aeval fr x) (aeval fr ix)).map fun v => (v, st)
  | .index t x ix => (aindex P t (aeval fr x) (aeval fr ix)).map fun v => (v, st)
  | .extract x ix => match aeval fr x with
    | .tup xs => (xs[ix]?).map fun v => (v, st)
    | _ => none
  | .makeFunc (.func f) first captured => if first.isEmpty then some (.fn f (captured.toList.map (aeval fr)), st) else none
  | .call c => match c.callee with
    | .builtin b => abuiltin P st id b c.argTypes (c.args.toList.map (aeval fr))
    | .value f => match aeval fr f with
      | .fn g caps => call g (c.args.toList.map (aeval fr) ++ caps) st
      | _ => none
    | _ => none
  | _ => none
end Go.Proofs.YtjpgpkkbmoehdaaDoor.Ra
