/- What the operations come to in the machine: reading, writing, places, cuts, numbers. -/
import Derived.Test.YtjpgpkkbmoehdaaDoorRc
namespace Go.Proofs.YtjpgpkkbmoehdaaDoor.Ra
open Go Go.RowKit
set_option linter.unusedVariables false
set_option linter.unusedSimpArgs false
section
variable {P : Program} {w0 : World} {σ : Ren} {st : St} {w : World}
theorem sz_run {t : TypeId} {s : Nat} (h : szOf P t = some s) (w : World) : (sizeOf t).run P w = .ok s w := by
  unfold szOf at h
  obtain ⟨i, hi, rfl⟩ := Option.map_eq_some_iff.1 h
  simp [sizeOf, typeInfo, hi]
theorem agg_run {t : TypeId} {d : TypeDesc} (h : P.underlying t = some d) (w : World) : (isAgg t).run P w = .ok (aggD d) w := by
  simp only [isAgg, Sem.run_bind, run_underlying h, Result.andThen_ok]
  cases d <;> rfl
theorem loadVar_run {t : TypeId} {d : TypeDesc} {s b o : Nat} {vs : List Value} (ht : P.underlying t = some d) (hs : szOf P t = some s) (hd : aggD d = true) (hl : vs.length = s) (hc : ∀ j u, vs[j]? = some u → w.cell? ⟨b, o + j, none⟩ = some u) :
    (loadVar t ⟨b, o, none⟩).run P w = .ok (.agg vs.toArray) w := by
  have := run_loadCells_list (P := P) w ⟨b, o, none⟩ vs (fun j v hv => by rw [add_at]; exact hc j v hv)
  rw [hl] at this
  simp only [loadVar, Sem.run_bind, agg_run ht, Result.andThen_ok, hd, if_true, sz_run hs, this, Sem.run_pure]
theorem loadVar_one {t : TypeId} {d : TypeDesc} {b o : Nat} {u : Value} (ht : P.underlying t = some d) (hd : aggD d = false) (hc : w.cell? ⟨b, o, none⟩ = some u) :
    (loadVar t ⟨b, o, none⟩).run P w = .ok u w := by
  simp [loadVar, agg_run ht, hd, run_load, hc]
theorem sim_loadP (h : Sim P w0 σ st w) {t : TypeId} {i off : Nat} {y : AV} {v : Value} (hv : VR σ (.ptr i off) v) (hl : aload P st t (.ptr i off) = some y) : ∃ u, (Instr.loadAt t v).run P w = .ok u w ∧ VR σ y u := by
  unfold aload at hl
  simp only at hl
  split at hl
  case h_2 => cases hl
  rename_i o ho
  split at hl
  case h_2 => cases hl
  rename_i d s hd hs
  cases hv with
  | ptr hi =>
  rename_i l
  split at hl
  · rename_i hag
    split at hl
    case isFalse => cases hl
    rename_i hlen
    cases hl
    obtain ⟨vs, hvl, hcr, hcell⟩ := h.range ho hi hlen
    refine ⟨.agg vs.toArray, ?_, .agg (by simpa using hcr.1) (fun j x v hx hv => hcr.2 j x v hx (by simpa using hv))⟩
    simp only [Instr.loadAt, Instr.sureAddr, Sem.run_bind, Sem.run_pure, Result.andThen_ok]
    exact loadVar_run hd hs hag hvl hcell
  · rename_i hag
    obtain ⟨u, hu, hr⟩ := h.cell ho hi hl
    refine ⟨u, ?_, hr⟩
    simp only [Instr.loadAt, Instr.sureAddr, Sem.run_bind, Sem.run_pure, Result.andThen_ok]
    exact loadVar_one hd (by simpa using hag) hu
theorem VR.glob (h : Sim P w0 σ st w) {i off : Nat} {v : Value} (hi : i < P.globals.size) (hv : VR σ (.pl (.pointer (some ⟨i, off, none⟩))) v) : VR σ (.ptr i off) v := by
  cases hv
  have := VR.ptr (σ := σ) (off := off) (h.init i hi)
  simpa using this
theorem sim_load (h : Sim P w0 σ st w) {t : TypeId} {x y : AV} {v : Value} (hv : VR σ x v) (hl : aload P st t x = some y) : ∃ u, (Instr.loadAt t v).run P w = .ok u w ∧ VR σ y u := by
  unfold aload at hl
  split at hl
  · exact sim_loadP h hv (by unfold aload; exact hl)
  · rename_i i off
    split at hl
    case isFalse => cases hl
    rename_i hi
    exact sim_loadP h (VR.glob h hi hv) (by unfold aload; exact hl)
  · cases hl
theorem splice_len (xs ys : List AV) (off : Nat) (h : off + ys.length ≤ xs.length) : (splice xs off ys).length = xs.length := by
  simp only [splice, List.length_append, List.length_take, List.length_drop]
  omega
theorem sim_store (h : Sim P w0 σ st w) {t : TypeId} {x y : AV} {v u : Value} {st' : St} (hv : VR σ x v) (hu : VR σ y u) (hs : astore P st t y x = some st') :
    ∃ w', (Instr.storeAt t v u).run P w = .ok () w' ∧ Sim P w0 σ st' w' := by
  unfold astore at hs
  split at hs
  case h_2 => cases hs
  rename_i i off
  split at hs
  case h_2 => cases hs
  rename_i o ho
  split at hs
  case h_2 => cases hs
  rename_i s hsz
  split at hs
  case isFalse => cases hs
  rename_i hcond
  obtain ⟨hown, hlen, hfit, hsolid, hone⟩ := hcond
  cases hs
  cases hv with
  | ptr hi =>
  rename_i l
  obtain ⟨l2, hl2, h1, c, e, fz, h2, h3, h4⟩ := h.obj i o ho
  rw [hi] at hl2
  cases hl2
  have hlo : l.own = true := by rw [← h1]; exact hown
  obtain ⟨rfl, g2, g3, g4, g5⟩ := h4 hlo
  have hcr := hu.cells hsolid
  have hn : u.cells.size = s := by have := hcr.1; simp only [Array.length_toList] at this; omega
  have hfit2 : l.base + off + u.cells.toList.length ≤ c.size := by rw [Array.length_toList, hn]; omega
  have hst := run_storeCells_at P l.blk (l.base + off) e u.cells.toList 0 c w h2 (by simpa using hfit2) (hcr.ones hone)
  refine ⟨_, ?_, h.write ho hi hlo h2 (c := (c.toList.take (l.base + off) ++ u.cells.toList ++ c.toList.drop (l.base + off + u.cells.toList.length)).toArray) (off := off) (n := s) ?_ (splice_len _ _ _ (by omega)) ?_ ?_⟩
  · simp only [Instr.storeAt, Instr.sureAddr, storeVar, Sem.run_bind, Sem.run_pure, Result.andThen_ok, sz_run hsz, hn, ne_eq, not_true_eq_false, if_false]
    simpa using hst
  · simp only [List.size_toArray, List.length_append, List.length_take, List.length_drop, Array.length_toList]
    simp only [Array.length_toList] at hfit2
    omega
  · intro q hq
    have hus : u.cells.toList.length = s := by rw [Array.length_toList]; exact hn
    have hlt : (c.toList.take (l.base + off)).length = l.base + off := by rw [List.length_take, Array.length_toList]; omega
    simp only [List.getElem?_toArray]
    rcases hq with hq | hq
    · rw [List.append_assoc, List.getElem?_append_left (by omega), List.getElem?_take, if_pos hq, Array.getElem?_toList]
    · rw [List.getElem?_append_right (by rw [List.length_append]; omega), List.getElem?_drop, List.length_append, hlt, hus, Array.getElem?_toList]
      congr 1
      omega
  · rw [splice_len _ _ _ (by omega)]
    have e1 : (((c.toList.take (l.base + off) ++ u.cells.toList ++ c.toList.drop (l.base + off + u.cells.toList.length)).toArray.toList.drop l.base).take o.cells.length) =
        (((c.toList.drop l.base).take o.cells.length).take off) ++ u.cells.toList ++ (((c.toList.drop l.base).take o.cells.length).drop (off + u.cells.toList.length)) := by
      have hlc : u.cells.toList.length = s := by rw [Array.length_toList]; exact hn
      apply List.ext_getElem?
      intro j
      simp only [List.getElem?_take, List.getElem?_drop, List.getElem?_append, List.length_append, List.length_take, List.length_drop, Array.length_toList, hn]
      by_cases a1 : j < off
      · rw [if_pos (by omega), if_pos (by omega), if_pos (by omega), if_pos (by omega), if_pos (by omega), if_pos (by omega), if_pos (by omega), if_pos (by omega)]
      · by_cases a2 : j < off + s
        · rw [if_pos (by omega), if_pos (by omega), if_neg (by omega), if_pos (by omega), if_neg (by omega)]
          congr 1
          omega
        · by_cases a3 : j < o.cells.length
          · rw [if_pos (by omega), if_neg (by omega), if_neg (by omega), if_pos (by omega)]
            congr 1
            omega
          · rw [if_neg (by omega), if_neg (by omega), if_neg (by omega)]
    rw [e1]
    have hl : y.cells.length = u.cells.toList.length := hcr.1
    unfold splice
    rw [hl]
    exact ((h3.take off).append hcr).append (h3.drop _)
theorem sim_indexAddr {t : TypeId} {x ix y : AV} {v u : Value} (hv : VR σ x v) (hu : VR σ ix u) (hi : aindexAddr P t x ix = some y) : ∃ r, (Instr.indexAt t v u).run P w = .ok r w ∧ VR σ y r := by
  unfold aindexAddr at hi
  split at hi
  · rename_i e i off len es k n he
    split at hi
    case isFalse => cases hi
    rename_i hb
    obtain ⟨s, hs, rfl⟩ := Option.map_eq_some_iff.1 hi
    cases hu
    cases hv with
    | sl h hc hm ho hl =>
    have ho2 := ho.resolve_left (by omega)
    subst ho2
    refine ⟨_, ?_, .ptr h⟩
    simp only [Instr.indexAt, Sem.run_bind, asIntOf, Sem.run_pure, Result.andThen_ok, run_underlying he, hb, and_self, if_true, sz_run hs, add_at, Nat.add_assoc]
  · rename_i len e i off k n he
    split at hi
    case isFalse => cases hi
    rename_i hb
    obtain ⟨s, hs, rfl⟩ := Option.map_eq_some_iff.1 hi
    cases hu
    cases hv with
    | ptr h =>
    refine ⟨_, ?_, .ptr h⟩
    simp only [Instr.indexAt, Instr.sureAddr, Sem.run_bind, asIntOf, Sem.run_pure, Result.andThen_ok, run_underlying he, hb, and_self, if_true, sz_run hs, add_at, Nat.add_assoc]
  · rename_i len e i off k n he
    split at hi
    case isFalse => cases hi
    rename_i hb
    obtain ⟨s, hs, rfl⟩ := Option.map_eq_some_iff.1 hi
    cases hu
    cases hv
    refine ⟨_, ?_, .pl _⟩
    simp only [Instr.indexAt, Instr.sureAddr, Sem.run_bind, asIntOf, Sem.run_pure, Result.andThen_ok, run_underlying he, hb, and_self, if_true, sz_run hs, add_at, Nat.add_assoc]
  · cases hi
theorem sim_fieldAddr {t : TypeId} {x y : AV} {v : Value} {f : Nat} (hv : VR σ x v) (hi : afieldAddr P t x f = some y) : ∃ r, (Instr.fieldAt t v f).run P w = .ok r w ∧ VR σ y r := by
  unfold afieldAddr at hi
  split at hi
  case h_2 => cases hi
  rename_i fs i off hu
  split at hi
  case h_2 => cases hi
  rename_i fd hf
  split at hi
  case h_2 => cases hi
  rename_i s hs
  split at hi
  case isTrue => cases hi
  rename_i hne
  cases hi
  cases hv with
  | ptr h =>
  refine ⟨_, ?_, .ptr h⟩
  simp only [Instr.fieldAt, fieldPlace, Instr.sureAddr, Sem.run_bind, run_underlying hu, Result.andThen_ok, hf, Sem.run_pure, sz_run hs, hne, if_false, add_at, Nat.add_assoc]
theorem sim_alow {h : Nat} {lo : Option AV} {lv : Option Value} {l : Nat} (hr : ∀ x, lo = some x → ∃ v, lv = some v ∧ VR σ x v) (hn : lo = none → lv = none) (ha : alow h lo = some l) :
    l ≤ h ∧ ∀ (c : BoundsCode), (match lv with | some v => Instr.sliceBound v h c | none => pure 0).run P w = .ok l w := by
  unfold alow at ha
  split at ha
  · cases ha
    rw [hn rfl]
    exact ⟨Nat.zero_le _, fun _ => rfl⟩
  · rename_i k n
    split at ha
    case isFalse => cases ha
    rename_i hb
    cases ha
    obtain ⟨v, rfl, hv⟩ := hr _ rfl
    cases hv
    refine ⟨by omega, fun c => ?_⟩
    simp only [Instr.sliceBound, Sem.run_bind, asIntOf, Sem.run_pure, Result.andThen_ok, hb, and_self, if_true]
  · cases ha
theorem sim_ahigh {len cap : Nat} {hi : Option AV} {hv : Option Value} {m : Nat} (hcap : len ≤ cap) (hr : ∀ x, hi = some x → ∃ v, hv = some v ∧ VR σ x v) (hn : hi = none → hv = none) (ha : ahigh len hi = some m) :
    m ≤ len ∧ ∀ (c : BoundsCode), (match hv with | some v => Instr.sliceBound v cap c | none => pure len).run P w = .ok m w := by
  unfold ahigh at ha
  split at ha
  · cases ha
    rw [hn rfl]
    exact ⟨Nat.le_refl _, fun _ => rfl⟩
  · rename_i k n
    split at ha
    case isFalse => cases ha
    rename_i hb
    cases ha
    obtain ⟨v, rfl, hv⟩ := hr _ rfl
    cases hv
    refine ⟨by omega, fun c => ?_⟩
    have hb2 : 0 ≤ n ∧ n ≤ (cap : Int) := ⟨hb.1, by omega⟩
    simp only [Instr.sliceBound, Sem.run_bind, asIntOf, Sem.run_pure, Result.andThen_ok, hb2, and_self, if_true]
  · cases ha
theorem bounds_run (isSlice : Bool) {len cap l h : Nat} {lo hi : Option Value}
    (hh : ∀ c : BoundsCode, (match hi with | some v => Instr.sliceBound v cap c | none => pure len).run P w = .ok h w) (hl : ∀ c : BoundsCode, (match lo with | some v => Instr.sliceBound v h c | none => pure 0).run P w = .ok l w) :
    (Instr.sliceBounds isSlice len cap lo hi none).run P w = .ok (l, h, cap) w := by
  cases hi with
  | none =>
    have e := hh .index
    simp only [Sem.run_pure] at e
    cases e
    cases lo with
    | none =>
      have e := hl .index
      simp only [Sem.run_pure] at e
      cases e
      simp [Instr.sliceBounds]
    | some v =>
      have e := hl .sliceB
      simp only at e
      simp [Instr.sliceBounds, e]
  | some u =>
    have e := hh (if isSlice then .sliceAcap else .sliceAlen)
    simp only at e
    cases lo with
    | none =>
      have e2 := hl .index
      simp only [Sem.run_pure] at e2
      cases e2
      simp [Instr.sliceBounds, e]
    | some v =>
      have e2 := hl .sliceB
      simp only at e2
      simp [Instr.sliceBounds, e, e2]
theorem sim_slice {t : TypeId} {x y : AV} {v : Value} {lo hi : Option AV} {lv hv : Option Value} (hx : VR σ x v) (hlo : ∀ x, lo = some x → ∃ v, lv = some v ∧ VR σ x v) (hlo0 : lo = none → lv = none) (hhi : ∀ x, hi = some x → ∃ v, hv = some v ∧ VR σ x v) (hhi0 : hi = none → hv = none)
    (ha : aslice P t x lo hi = some y) : ∃ r, (Instr.sliceAt t v lv hv none).run P w = .ok r w ∧ VR σ y r := by
  unfold aslice at ha
  split at ha
  · rename_i e i off len es he
    split at ha
    case h_2 => cases ha
    rename_i s h hs hh
    split at ha
    case h_2 => cases ha
    rename_i l hl
    split at ha
    case isFalse => cases ha
    rename_i hes
    cases ha
    cases hx with
    | sl hi hc hm ho hlim =>
    rename_i cap o loc
    obtain ⟨h1, h2⟩ := sim_ahigh (P := P) (w := w) hc hhi hhi0 hh
    obtain ⟨l1, l2⟩ := sim_alow (P := P) (w := w) hlo hlo0 hl
    have hb := bounds_run (P := P) (w := w) true h2 l2
    refine ⟨_, ?_, .sl (cap := cap - l) (o := if cap = l then o else o + l * s) hi (by omega) (by omega) ?_ ?_⟩
    · simp only [Instr.sliceAt, Instr.slice, Sem.run_bind, run_underlying he, Result.andThen_ok, hb, sz_run hs, Sem.run_pure]
      split
      · rfl
      · simp [add_at]
    · by_cases e1 : cap = l
      · exact .inl (by omega)
      · rw [if_neg e1]
        refine .inr ?_
        rcases ho with ho | ho
        · omega
        · omega
    · intro hown
      obtain ⟨h3, h4, h5⟩ := hlim hown
      have h6 : es = s := by omega
      subst h6
      have h7 : l * es + (cap - l) * es = cap * es := by rw [← Nat.add_mul]; congr 1; omega
      exact ⟨h3, h4, by omega⟩
  · rename_i e q c0 he
    split at ha
    case h_2 => cases ha
    rename_i s h hs hh
    split at ha
    case h_2 => cases ha
    rename_i l hl
    cases ha
    cases hx
    obtain ⟨h1, h2⟩ := sim_ahigh (P := P) (w := w) (Nat.zero_le c0) hhi hhi0 hh
    obtain ⟨l1, l2⟩ := sim_alow (P := P) (w := w) hlo hlo0 hl
    have hb := bounds_run (P := P) (w := w) true h2 l2
    obtain rfl : h = 0 := by omega
    obtain rfl : l = 0 := by omega
    refine ⟨_, ?_, .pl _⟩
    have hq : q.map (·.add (0 * s)) = q := by cases q <;> simp [Addr.add]
    simp only [Instr.sliceAt, Instr.slice, Sem.run_bind, run_underlying he, Result.andThen_ok, hb, sz_run hs, Sem.run_pure, Nat.sub_zero, hq, ite_self]
  · rename_i s he
    split at ha
    case h_2 => cases ha
    rename_i h hh
    split at ha
    case h_2 => cases ha
    rename_i l hl
    cases ha
    cases hx
    obtain ⟨h1, h2⟩ := sim_ahigh (P := P) (w := w) (Nat.le_refl s.size) hhi hhi0 hh
    obtain ⟨l1, l2⟩ := sim_alow (P := P) (w := w) hlo hlo0 hl
    have hb := bounds_run (P := P) (w := w) false h2 l2
    refine ⟨_, ?_, .pl _⟩
    simp [Instr.sliceAt, Instr.slice, run_underlying he, hb]
  · cases ha
/-- Numbers, letters, truth. -/
theorem bin_run {op : BinOp} {k k' : IntKind} {a b : Int} {v : Value} (hk : k = k' ∨ op = .shl ∨ op = .shr) (h : aintBin op k a b = some v) (t : TypeId) : (binOp op t (.int k a) (.int k' b)).run P w = .ok v w := by
  cases op <;> simp only [aintBin] at h <;> simp only [reduceCtorEq, or_false, false_or, or_true, true_or] at hk <;>
    (try subst hk) <;> (try (split at h <;> first | (cases h; done) | skip)) <;> (try (injection h with h; subst h)) <;>
    simp_all [binOp, Op.intArith, Op.intDiv, Op.intBits, Op.intCmp, Op.shift, bits] <;> (intro hb_; omega)
theorem str_run {op : BinOp} {a b : ByteArray} {v : Value} (h : astrBin op a b = some v) (t : TypeId) : (binOp op t (.string a) (.string b)).run P w = .ok v w := by
  cases op <;> simp only [astrBin] at h <;> (try (cases h; done)) <;> (try (split at h <;> first | (cases h; done) | skip)) <;> (try (injection h with h; subst h)) <;>
    simp_all [binOp, Op.stringOp]
theorem eq_run {op : BinOp} {t : TypeId} {x y v : Value} {b : Bool} (hb : ∀ w, (Op.equal t x y).run P w = .ok b w) (hx : ∀ a b : Value, (op = .eql ∨ op = .neq) → binOp op t x y = (match op with | .eql => do pure (.bool (← Op.equal t x y)) | _ => do pure (.bool (!(← Op.equal t x y))))) (h : aeqOp op b = some v) : (binOp op t x y).run P w = .ok v w := by
  cases op <;> simp only [aeqOp] at h <;> (try (cases h; done)) <;> (injection h with h; subst h)
  · rw [hx x y (.inl rfl)]; simp [hb]
  · rw [hx x y (.inr rfl)]; simp [hb]
def quietPair : Value → Value → Bool
  | .nilIface, .nilIface => false
  | .agg _, .agg _ => false
  | _, _ => true
theorem eqIn_ptr_nil (d : Nat) {t e : TypeId} (he : P.underlying t = some (.pointer e)) (p : Option Addr) (w : World) : (Op.equalIn (d + 1) t (.pointer p) (.pointer none)).run P w = .ok p.isNone w := by
  simp only [Op.equalIn, Sem.run_bind, run_underlying he, Result.andThen_ok]
  cases p <;> rfl
theorem eqIn_slice_nil (d : Nat) {t e : TypeId} (he : P.underlying t = some (.slice e)) (p : Option Addr) (n c n' c' : Nat) (w : World) : (Op.equalIn (d + 1) t (.slice p n c) (.slice none n' c')).run P w = .ok p.isNone w := by
  simp only [Op.equalIn, Sem.run_bind, run_underlying he, Result.andThen_ok]
  cases p <;> rfl
theorem eq_ptr_nil {t e : TypeId} (he : P.underlying t = some (.pointer e)) (p : Option Addr) (w : World) : (Op.equal t (.pointer p) (.pointer none)).run P w = .ok p.isNone w := by
  exact eqIn_ptr_nil 9999 he p w
theorem eq_slice_nil {t e : TypeId} (he : P.underlying t = some (.slice e)) (p : Option Addr) (n c n' c' : Nat) (w : World) : (Op.equal t (.slice p n c) (.slice none n' c')).run P w = .ok p.isNone w := by
  exact eqIn_slice_nil 9999 he p n c n' c' w
theorem guard_run {op : BinOp} {t : TypeId} {x y : Operand} {a b : Value} (h : quietPair a b = true) : (eqGuard op t x y a b).run P w = .ok () w := by
  unfold eqGuard
  cases op <;> simp [Sem.run_pure] <;> (split <;> first | (simp [quietPair] at h; done) | rfl)
theorem eqF_run {xs ys : List AV} {vs us : Array Value} (hx : VR σ (.agg xs) (.agg vs)) (hy : VR σ (.agg ys) (.agg us)) (d : Nat) (w : World) : ∀ (fs : List Field) (b : Bool), aeqF P xs ys fs = some b → (Op.eqFields (d + 1) vs us fs).run P w = .ok b w := by
  cases hx with
  | agg hn hv =>
  cases hy with
  | agg hm hu =>
  intro fs
  have at_ : ∀ {zs : List AV} {ws : Array Value} (hn : zs.length = ws.size) (hz : ∀ (i : Nat) (x : AV) (v : Value), zs[i]? = some x → ws[i]? = some v → VR σ x v) {i : Nat} {v : Value}, zs[i]? = some (.pl v) → ws[i]? = some v := by
    intro zs ws hn hz i v hi
    obtain ⟨hlt, _⟩ := List.getElem?_eq_some_iff.1 hi
    have hlt2 : i < ws.size := by omega
    have hr := hz i _ _ hi (Array.getElem?_eq_getElem hlt2)
    cases hr
    exact Array.getElem?_eq_getElem hlt2
  induction fs with
  | nil => intro b h; simp only [aeqF, Option.some.injEq] at h; subst h; rfl
  | cons f fs ih =>
    intro b h
    simp only [aeqF] at h
    simp only [Op.eqFields]
    split at h
    · rename_i hf
      rw [if_pos hf]
      split at h
      case h_2 => cases h
      rename_i k k1 a k2 c hk ha hc
      split at h
      case isFalse => cases h
      rename_i hkk
      subst hkk
      have h1 := at_ hn hv ha
      have h2 := at_ hm hu hc
      have p1 : (part f.type vs f.offset).run P w = .ok (.int k1 a) w := by simp [part, agg_run hk, aggD, h1]
      have p2 : (part f.type us f.offset).run P w = .ok (.int k1 c) w := by simp [part, agg_run hk, aggD, h2]
      have p3 : (Op.equalIn (d + 1) f.type (.int k1 a) (.int k1 c)).run P w = .ok (a == c) w := by
        simp [Op.equalIn, run_underlying hk]
      rw [Sem.run_bind, p1, Result.andThen_ok, Sem.run_bind, p2, Result.andThen_ok, Sem.run_bind, p3, Result.andThen_ok]
      by_cases hac : (a == c) = true
      · rw [if_pos hac] at h
        rw [hac]
        simp only [Bool.not_true, Bool.false_eq_true, if_false]
        exact ih b h
      · rw [if_neg hac] at h
        simp only [Option.some.injEq] at h
        subst h
        have hac' : (a == c) = false := by simpa using hac
        rw [hac']
        rfl
    · rename_i hf
      rw [if_neg hf]
      exact ih b h
theorem sim_bin {op : BinOp} {t : TypeId} {x y : AV} {a b v : Value} {ox oy : Operand} (hx : VR σ x a) (hy : VR σ y b) (h : abin P op t x y = some v) :
    ∀ w, (do eqGuard op t ox oy a b; binOp op t a b : Sem Value).run P w = .ok v w := by
  intro w
  have fin : ∀ (hg : quietPair a b = true), (binOp op t a b).run P w = .ok v w → (do eqGuard op t ox oy a b; binOp op t a b : Sem Value).run P w = .ok v w := by
    intro hg hb
    rw [Sem.run_bind, guard_run hg, Result.andThen_ok]
    exact hb
  unfold abin at h
  split at h
  · split at h
    case isFalse => cases h
    rename_i hk
    cases hx; cases hy
    exact fin rfl (bin_run hk h t)
  · cases hx; cases hy
    exact fin rfl (str_run h t)
  · split at h
    case isFalse => cases h
    rename_i hd
    cases hx; cases hy
    have hb : P.underlying t = some .bool := by unfold isBoolD at hd; split at hd <;> first | assumption | cases hd
    exact fin rfl (eq_run (fun w => run_equal_bool w t _ _ hb) (fun _ _ ho => by rcases ho with rfl | rfl <;> rfl) h)
  · split at h
    case isFalse => cases h
    rename_i hd
    cases hy
    cases hx with
    | ptr hi =>
    have hb : ∃ e, P.underlying t = some (.pointer e) := by unfold isPtrD at hd; split at hd <;> first | exact ⟨_, by assumption⟩ | cases hd
    obtain ⟨e, he⟩ := hb
    exact fin rfl (eq_run (fun w => eq_ptr_nil he _ w) (fun _ _ ho => by rcases ho with rfl | rfl <;> rfl) h)
  · split at h
    case isFalse => cases h
    rename_i hd
    cases hy; cases hx
    have hb : ∃ e, P.underlying t = some (.pointer e) := by unfold isPtrD at hd; split at hd <;> first | exact ⟨_, by assumption⟩ | cases hd
    obtain ⟨e, he⟩ := hb
    exact fin rfl (eq_run (fun w => eq_ptr_nil he _ w) (fun _ _ ho => by rcases ho with rfl | rfl <;> rfl) h)
  · split at h
    case isFalse => cases h
    rename_i hd
    cases hy
    cases hx with
    | sl hi hc hm ho hl =>
    have hb : ∃ e, P.underlying t = some (.slice e) := by unfold isSliceD at hd; split at hd <;> first | exact ⟨_, by assumption⟩ | cases hd
    obtain ⟨e, he⟩ := hb
    exact fin rfl (eq_run (fun w => eq_slice_nil he _ _ _ _ _ w) (fun _ _ ho => by rcases ho with rfl | rfl <;> rfl) h)
  · split at h
    case isFalse => cases h
    rename_i hd
    cases hy; cases hx
    have hb : ∃ e, P.underlying t = some (.slice e) := by unfold isSliceD at hd; split at hd <;> first | exact ⟨_, by assumption⟩ | cases hd
    obtain ⟨e, he⟩ := hb
    exact fin rfl (eq_run (fun w => eq_slice_nil he _ _ _ _ _ w) (fun _ _ ho => by rcases ho with rfl | rfl <;> rfl) h)
  · rename_i xs ys
    obtain ⟨bb, hb, ho⟩ := Option.bind_eq_some_iff.1 h
    unfold aeqS at hb
    split at hb
    case h_2 => cases hb
    rename_i fs hu
    split at hb
    case isFalse => cases hb
    rename_i hpq
    have hfs : P.fieldsOf t = fs := by unfold Program.fieldsOf; rw [hu]
    cases hx with
    | agg hn1 hv1 =>
    cases hy with
    | agg hn2 hv2 =>
    rename_i vs us
    have hrun : ∀ w, (Op.equalIn 10000 t (.agg vs) (.agg us)).run P w = .ok bb w := fun w => by
      rw [run_equalIn_agg w 9999 t vs us (by rw [hfs]; exact hu) hpq.1, hfs]
      exact eqF_run (.agg hn1 hv1) (.agg hn2 hv2) 9998 w fs.toList bb hb
    rw [Sem.run_bind, run_eqGuard_agg w op t ox oy vs us hpq.2, Result.andThen_ok]
    cases op <;> simp only [aeqOp] at ho <;> (try (cases ho; done)) <;> (injection ho with ho; subst ho)
    · rw [run_eql_struct, hrun, Result.andThen_ok]
    · rw [run_neq_struct, hrun, Result.andThen_ok]
  · cases h
theorem sim_un {op : UnOp} {x : AV} {a v : Value} (hx : VR σ x a) (h : aun op x = some v) : ∀ w, (Op.unary op a).run P w = .ok v w := by
  intro w
  unfold aun at h
  split at h
  · cases hx
    cases op <;> simp only at h <;> (try (cases h; done)) <;> (injection h with h; subst h) <;> simp [Op.unary, Op.intArith, Op.intBits, bits]
  · cases hx
    cases op <;> simp only at h <;> (try (cases h; done)) <;> (injection h with h; subst h) <;> simp [Op.unary]
  · cases h
end
end Go.Proofs.YtjpgpkkbmoehdaaDoor.Ra
