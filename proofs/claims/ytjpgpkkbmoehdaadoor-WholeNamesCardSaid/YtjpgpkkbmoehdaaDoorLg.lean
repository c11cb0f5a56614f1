/- leattop.WholeNames: the names. -/
import Derived.Test.YtjpgpkkbmoehdaaDoorLf
namespace Go.Proofs.YtjpgpkkbmoehdaaDoor.Ra
open Go Go.RowKit Go.Proofs.YtjpgpkkbmoehdaaDoor.Ra.Nm
set_option linter.unusedVariables false
set_option linter.unusedSimpArgs false
set_option maxRecDepth 10000
abbrev BT : TypeId := 28
theorem litR1 {st : St} {K : Nat → Prop} {x : AV} {ys : List Int} (hl : RdB st K x ys) (id : Nat) : abuildSlice Tryd.prog 42 id 1 [(0, x)] = some (.sl id 0 1 1, ⟨[x], BT, true, id⟩) := lits_one TR id [x] (by simp [hl.solid, hl.cell.1]) (by simp)
theorem markF (st : St) (id g id' : Nat) (ns : List Int) : aconvert Tryd.prog (st.put id ⟨ns.map u8, 5, true, g⟩) id' 28 28 (.sl id 0 ns.length 1) = some (.sl id' 0 ns.length 0, ((st.put id ⟨ns.map u8, 5, true, g⟩).kill g).put id' ⟨ns.map u8, 5, false, id'⟩) := by
  simp only [aconvert, uB, if_true, amark, u5, get_put]
theorem RdB.markedF (st : St) (id g : Nat) (ns : List Int) : RdB (st.put id ⟨ns.map u8, 5, false, g⟩) (fun h => h = g) (.sl id 0 ns.length 0) ns :=
  .inr ⟨id, 0, false, _, rfl, get_put _ _, rfl, by simp, fun j x hx => by simp [hx]⟩
/-- A string's bytes. -/
def ints (s : ByteArray) : List Int := s.data.toList.map fun b => (b.toNat : Int)
theorem ints_len (s : ByteArray) : (ints s).length = s.size := by rw [Lib.size_eq]; simp [ints]
theorem ints_by (s : ByteArray) : ∀ x ∈ ints s, 0 ≤ x ∧ x ≤ 255 := by
  intro x hx
  obtain ⟨b, _, rfl⟩ := List.mem_map.1 hx
  have := b.toNat_lt
  omega
theorem convS (st : St) (id : Nat) (s : ByteArray) (h : s.size ≤ 1000) : aconvert Tryd.prog st id 9 28 (str s) = some (.sl id 0 (ints s).length 0, st.put id ⟨(ints s).map u8, 5, false, id⟩) := by
  have hs : Tryd.prog.underlying 9 = some .string := Tryd.underlying9
  have hm : s.size ≤ maxLen := by unfold maxLen; omega
  rw [ints_len]
  simp only [aconvert, uB, hs, u5, sz5, hm, if_true, ints, List.map_map]
  rfl
theorem sum1 {st : St} (hw : WF st) (hT : TabA st) {K : Nat → Prop} {v : AV} {l : List Int} (id : Nat) (hid : id < st.n) (hf : st.get id = none) (h : RdB st K v l) (hl : l.length ≤ 1000) (hby : ∀ x ∈ l, 0 ≤ x ∧ x ≤ 255) :
    ACalls Tryd.prog 6 [.sl id 0 1 1] (st.put id ⟨[v], BT, true, id⟩) (fun r s => Ext (st.put id ⟨[v], BT, true, id⟩) s ∧ r = v32 (Cm.num (Cm.crc l))) := by
  have hE : Ext st (st.put id ⟨[v], BT, true, id⟩) := Keeps.putF (Keeps.refl _ _) hf
  have := sum_ok (K := fun _ => True) (ps := [l]) (hw.put hid hid) (hT.up hE) (RdL.one ⟨v, rfl, (h.mono (fun _ _ => trivial)).up hE⟩ rfl _ trivial _) (by simp) (fun p hp => by rw [List.mem_singleton.1 hp]; omega) (fun p hp => by rw [List.mem_singleton.1 hp]; exact hby)
  simpa using this
theorem marked {st : St} (hw : WF st) (k a b : Nat) (l : List Int) (ha : st.n ≤ a) (ha2 : a < st.n + k) (hb : st.n ≤ b) (hb2 : b < st.n + k) {s : St} (hs : s = (((st.bump k).put a ⟨l.map u8, 5, true, a⟩).kill a).put b ⟨l.map u8, 5, false, b⟩) :
    Ext st s ∧ WF s ∧ RdB s (fun g => g = b) (.sl b 0 l.length 0) l ∧ s.n = st.n + k ∧ ∀ d, d ≠ a → d ≠ b → st.n ≤ d → s.get d = none := by
  subst hs
  refine ⟨(((Keeps.bump _ st k).put hw ha).kill hw (.inr ha)).put hw hb, WF.put (WF.kill (WF.put (hw.bump k) ha2 ha2) _) hb2 hb2, RdB.markedF _ _ _ _, rfl, fun d h1 h2 h3 => ?_⟩
  rw [get_put_ne _ h2]
  simp only [St.kill]
  rw [get_put_ne _ h1]
  have : (st.bump k).get d = none := fresh hw h3
  rw [this]
  rfl
theorem ARL.mono {P : Program} {sd : Bool} {ops : Array Oper} {n0 i : Nat} {l : List Oper} {fr : AFr} {st : St} {Q Q' : AFr → St → Prop} (h : ARL P sd ops n0 i l fr st Q) (hq : ∀ fr s, Q fr s → Q' fr s) : ARL P sd ops n0 i l fr st Q' := fun hl => by
  obtain ⟨k, fr', s, h1, h2⟩ := h hl
  exact ⟨k, fr', s, h1, hq _ _ h2⟩
theorem ACalls.frm {P : Program} {f : FuncId} {xs : List AV} {st : St} {Q : AV → St → Prop} (h : ACalls P f xs st Q) : ACalls P f xs st (fun r s => (∀ d, Frm d st → Frm d s) ∧ Q r s) := by
  obtain ⟨k, r, s, h1, h2⟩ := h
  exact ⟨k, r, s, h1, fun d hd => (acall_frame P k _ _ _ _ _ h1 d hd).1, h2⟩
theorem frm_new {st : St} (hw : WF st) (k : Nat) {d : Nat} (h1 : st.n ≤ d) (h2 : d < st.n + k) : Frm d (st.bump k) := ⟨h2, fresh hw h1, fun i o hi => by have := (hw i o hi).2; omega⟩
def l47 : List Int := [47]
theorem lit47 (id : Nat) : abuildSlice Tryd.prog 28 id 1 [(0, u8 47)] = some (.sl id 0 l47.length 1, ⟨l47.map u8, 5, true, id⟩) := lits id l47 (by decide)
theorem conv2 {st : St} (hw : WF st) (a : Nat) (l : List Int) (ha : a < st.n) (hf : st.get a = none) {s : St} (hs : s = st.put a ⟨l.map u8, 5, false, a⟩) :
    Ext st s ∧ WF s ∧ RdB s (fun g => g = a) (.sl a 0 l.length 0) l ∧ s.n = st.n ∧ ∀ d, d ≠ a → st.get d = none → s.get d = none := by
  subst hs
  exact ⟨Keeps.putF (Keeps.refl _ _) hf, hw.put ha ha, RdB.markedF _ _ _ _, rfl, fun d h1 h2 => by rw [get_put_ne _ h1]; exact h2⟩
theorem kill_none {st : St} {g d : Nat} (h : st.get d = none) : (st.kill g).get d = none := by
  simp only [St.kill, h]
  rfl
theorem mark2 {st : St} (hw : WF st) (a b : Nat) (l : List Int) (ha : a < st.n) (hb : b < st.n) (hab : b ≠ a) (hfa : st.get a = none) (hfb : st.get b = none) (hg : ∀ i o, st.get i = some o → o.grp ≠ a) {s : St} (hs : s = ((st.put a ⟨l.map u8, 5, true, a⟩).kill a).put b ⟨l.map u8, 5, false, b⟩) :
    Ext st s ∧ WF s ∧ RdB s (fun g => g = b) (.sl b 0 l.length 0) l ∧ s.n = st.n ∧ ∀ d, d ≠ a → d ≠ b → st.get d = none → s.get d = none := by
  subst hs
  refine ⟨⟨Nat.le_refl _, fun i o hi _ => ?_, fun i c hc _ _ => hc⟩, WF.put (WF.kill (WF.put hw ha ha) _) hb hb, RdB.markedF _ _ _ _, rfl, fun d h1 h2 h3 => ?_⟩
  · have n1 : i ≠ b := by rintro rfl; rw [hfb] at hi; cases hi
    have n2 : i ≠ a := by rintro rfl; rw [hfa] at hi; cases hi
    rw [get_put_ne _ n1]
    simp only [St.kill]
    rw [get_put_ne _ n2, hi]
    simp only [Option.bind_some]
    rw [if_neg (hg i o hi)]
  · rw [get_put_ne _ h2]
    refine kill_none ?_
    rw [get_put_ne _ h1]
    exact h3
theorem rows3 {st : St} {K1 K2 K3 : Nat → Prop} {x y z : AV} {a b c : List Int} (hx : RdB st K1 x a) (hy : RdB st K2 y b) (hz : RdB st K3 z c) (id : Nat) (hf : st.get id = none) :
    RdE rowK (st.put id ⟨[x, y, z], BT, true, id⟩) (fun _ => True) (.sl id 0 3 1) [a, b, c] := by
  have hE : Ext st (st.put id ⟨[x, y, z], BT, true, id⟩) := Keeps.putF (Keeps.refl _ _) hf
  refine .inr ⟨id, 0, true, _, rfl, get_put _ _, trivial, by simp [rowK], fun j w hw => ?_⟩
  match j, hw with
  | 0, hw => obtain rfl : a = w := by simpa using hw
             exact ⟨x, rfl, (hx.up hE).mono (fun _ _ => trivial)⟩
  | 1, hw => obtain rfl : b = w := by simpa using hw
             exact ⟨y, rfl, (hy.up hE).mono (fun _ _ => trivial)⟩
  | 2, hw => obtain rfl : c = w := by simpa using hw
             exact ⟨z, rfl, (hz.up hE).mono (fun _ _ => trivial)⟩
theorem litR3 {st : St} {K1 K2 K3 : Nat → Prop} {x y z : AV} {a b c : List Int} (hx : RdB st K1 x a) (hy : RdB st K2 y b) (hz : RdB st K3 z c) (id : Nat) : abuildSlice Tryd.prog 42 id 3 [(0, x), (1, y), (2, z)] = some (.sl id 0 3 1, ⟨[x, y, z], BT, true, id⟩) := lits_one TR id [x, y, z] (by simp [hx.solid, hx.cell.1, hy.solid, hy.cell.1, hz.solid, hz.cell.1]) (by simp)
theorem sum3 {st : St} (hw : WF st) (hT : TabA st) {K1 K2 K3 : Nat → Prop} {x y z : AV} {a b c : List Int} (id : Nat) (hid : id < st.n) (hf : st.get id = none) (hx : RdB st K1 x a) (hy : RdB st K2 y b) (hz : RdB st K3 z c) (la : a.length ≤ 1000) (lb : b.length ≤ 1000) (lc : c.length ≤ 1000) (ba : ∀ x ∈ a, 0 ≤ x ∧ x ≤ 255) (bb : ∀ x ∈ b, 0 ≤ x ∧ x ≤ 255) (bc : ∀ x ∈ c, 0 ≤ x ∧ x ≤ 255) :
    ACalls Tryd.prog 6 [.sl id 0 3 1] (st.put id ⟨[x, y, z], BT, true, id⟩) (fun r s => Ext (st.put id ⟨[x, y, z], BT, true, id⟩) s ∧ r = v32 (Cm.num (Cm.crc (a ++ b ++ c)))) := by
  have hE : Ext st (st.put id ⟨[x, y, z], BT, true, id⟩) := Keeps.putF (Keeps.refl _ _) hf
  have := sum_ok (K := fun _ => True) (ps := [a, b, c]) (hw.put hid hid) (hT.up hE) (rows3 hx hy hz id hf) (by simp) (fun p hp => by
    have : p = a ∨ p = b ∨ p = c := by simpa using hp
    rcases this with rfl | rfl | rfl <;> omega) (fun p hp => by
    have : p = a ∨ p = b ∨ p = c := by simpa using hp
    rcases this with rfl | rfl | rfl <;> assumption)
  simpa using this
theorem nbF (t : Bool) : abin Tryd.prog .neq 4 (.pl (.bool t)) (.pl (.bool t)) = some (.bool false) := by
  simp [abin, isBoolD, Tryd.underlying4, aeqOp]
theorem lssS (a b : ByteArray) (t : TypeId) : abin Tryd.prog .lss t (str a) (str b) = some (.bool (Op.bytesLess a.data.toList b.data.toList)) := by
  simp only [abin, astrBin, Lib.toList_data]
theorem sliceTo (s : ByteArray) (k : Nat) (h : k ≤ s.size) : aslice Tryd.prog 9 (str s) none (some (i64 k)) = some (str (s.extract 0 k)) := by
  simp only [aslice, Tryd.underlying9, ahigh, alow]
  rw [if_pos ⟨by omega, by omega⟩]
  rfl
theorem sliceFrom (s : ByteArray) (k : Nat) (h : k ≤ s.size) : aslice Tryd.prog 9 (str s) (some (i64 k)) none = some (str (s.extract k s.size)) := by
  simp only [aslice, Tryd.underlying9, ahigh, alow]
  rw [if_pos ⟨by omega, by omega⟩]
  rfl
/-- What the path is made of. -/
theorem path_facts (l : List UInt8) (h : OkT l) (p b : Nat) (hp : p < 2147483648) (hb : b ≤ 4611686018427387904) :
    (bs (pathL l p b)).size = (bs (dirL l p)).size + 25 ∧ (bs (dirL l p)).size ≤ 75 ∧ (bs (pathL l p b)).extract 0 (bs (dirL l p)).size = bs (dirL l p) ∧ (bs (pathL l p b)).extract (bs (dirL l p)).size (bs (pathL l p b)).size = bs (47 :: fileL b) ∧
    (bs (pathL l p b)).extract ((bs (dirL l p)).size + 1) (bs (pathL l p b)).size = bs (fileL b) ∧ ∃ hk, ((bs (pathL l p b))[(bs (dirL l p)).size]'hk).toNat = 47 := by
  have hf : (fileL b).length = 24 := fileL_len (by omega)
  have e1 : (bs (pathL l p b)).size = (bs (dirL l p)).size + 25 := by
    rw [bs_size, bs_size]
    unfold pathL
    rw [List.length_append, List.length_cons, hf]
  refine ⟨e1, dirL_size h hp, ?_, ?_, ?_, ?_⟩
  · rw [bs_cut, bs_size, List.drop_zero, Nat.sub_zero]
    unfold pathL
    rw [List.take_left' rfl]
  · rw [bs_cut, e1, bs_size]
    unfold pathL
    rw [List.drop_left' rfl, List.take_of_length_le (by rw [List.length_cons, hf]; omega)]
  · rw [bs_cut, e1, bs_size]
    unfold pathL
    have e : dirL l p ++ 47 :: fileL b = (dirL l p ++ [47]) ++ fileL b := by simp
    rw [e, List.drop_left' (by simp), List.take_of_length_le (by rw [hf]; omega)]
  · have hk : (bs (dirL l p)).size < (bs (pathL l p b)).size := by omega
    refine ⟨hk, ?_⟩
    have e : (bs (pathL l p b))[(bs (dirL l p)).size]'hk = (pathL l p b).toArray[(bs (dirL l p)).size]'hk := rfl
    rw [e, List.getElem_toArray]
    have : (pathL l p b)[(bs (dirL l p)).size]? = some 47 := by
      rw [bs_size]
      unfold pathL
      rw [List.getElem?_append_right (Nat.le_refl _), Nat.sub_self]
      rfl
    rw [List.getElem?_eq_getElem (by rw [← bs_size (pathL l p b)]; exact hk)] at this
    rw [Option.some.inj this]
    rfl
theorem ints_app (a b : List UInt8) : ints (bs (a ++ b)) = ints (bs a) ++ ints (bs b) := by simp [ints]
def l9 : List Int := [49, 50, 51, 52, 53, 54, 55, 56, 57]
theorem lit9 (id : Nat) : abuildSlice Tryd.prog 28 id 9 [(0, u8 49), (1, u8 50), (2, u8 51), (3, u8 52), (4, u8 53), (5, u8 54), (6, u8 55), (7, u8 56), (8, u8 57)] = some (.sl id 0 l9.length 1, ⟨l9.map u8, 5, true, id⟩) := lits id l9 (by decide)
theorem crc9 : Cm.num (Cm.crc l9) = 3808858755 := by decide +kernel
theorem okIn : OkT (⟨#[105, 110]⟩ : ByteArray).data.toList := ⟨by decide, by decide, by decide, by decide, by
  intro c hc
  have : c = 105 ∨ c = 110 := by simpa using hc
  rcases this with rfl | rfl <;> (unfold okB; decide)⟩
theorem dir3 : bs (dirL (⟨#[105, 110]⟩ : ByteArray).data.toList 3) = ⟨#[105, 110, 45, 51]⟩ := by
  unfold dirL
  rw [Lib.decDigits_one (by decide)]
  rfl
theorem neS (s : ByteArray) (t : TypeId) : abin Tryd.prog .neq t (str s) (str s) = some (.bool false) := by simp [abin, astrBin]
theorem eqS (a b : ByteArray) (t : TypeId) : abin Tryd.prog .eql t (str a) (str b) = some (.bool (decide (a.data.toList = b.data.toList))) := by
  simp only [abin, astrBin, Lib.toList_data]
  congr 2
  by_cases h : a.data.toList = b.data.toList
  · rw [h]; simp
  · rw [decide_eq_false h]; exact beq_eq_false_iff_ne.2 h
end Go.Proofs.YtjpgpkkbmoehdaaDoor.Ra
