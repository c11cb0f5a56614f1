/- What each operation comes to in the machine. -/
import Derived.Test.YtjpgpkkbmoehdaaDoorRg
namespace Go.Proofs.YtjpgpkkbmoehdaaDoor.Ra
open Go Go.RowKit
set_option linter.unusedVariables false
set_option linter.unusedSimpArgs false
section
variable {P : Program} {w0 : World} {σ : Ren} {st : St} {w : World}
theorem nums_of {xs : List AV} {vs : List Value} {ns : List Int} (h : CR σ xs vs) (hn : xs.mapM anum = some ns) : vs = ns.map (Value.int .u8) := by
  induction xs generalizing vs ns with
  | nil =>
    simp at hn
    subst hn
    exact List.eq_nil_of_length_eq_zero (by simpa using h.1.symm)
  | cons x r ih =>
    rw [List.mapM_cons] at hn
    simp only [Option.bind_eq_bind, Option.pure_def, Option.bind_eq_some_iff, Option.some.injEq] at hn
    obtain ⟨n, h1, ns', h2, rfl⟩ := hn
    have hl := h.1
    cases vs with
    | nil => simp at hl
    | cons v vr =>
      have hx := h.2 0 x v rfl rfl
      have hr : CR σ r vr := ⟨by simpa using hl, fun j x v hx hv => h.2 (j + 1) x v (by simpa using hx) (by simpa using hv)⟩
      rw [ih hr h2, List.map_cons]
      congr 1
      unfold anum at h1
      split at h1
      · cases h1; cases hx; rfl
      · cases h1
theorem sim_convert (h : Sim P w0 σ st w) {id : Nat} (hid : σ id = none) (hn : id < st.n) {src dst : TypeId} {x y : AV} {v : Value} {st' : St} (hv : VR σ x v) (ha : aconvert P st id src dst x = some (y, st')) :
    ∃ r w' σ', (convert src dst v).run P w = .ok r w' ∧ New σ σ' id ∧ Sim P w0 σ' st' w' ∧ VR σ' y r ∧ st'.n = st.n := by
  unfold aconvert at ha
  split at ha
  · rename_i d k k2 n hs hd
    simp only [Option.some.injEq, Prod.mk.injEq] at ha
    obtain ⟨rfl, rfl⟩ := ha
    cases hv
    exact ⟨_, w, σ, by simp [convert, run_underlying hs, run_underlying hd, Conv.intToInt], New.refl σ id, h, .pl _, rfl⟩
  · rename_i e s hs hd
    split at ha
    case h_2 => cases ha
    rename_i he hsz
    split at ha
    case isFalse => cases ha
    rename_i hm
    simp only [Option.some.injEq, Prod.mk.injEq] at ha
    obtain ⟨rfl, rfl⟩ := ha
    cases hv
    have hr := run_bytes_of_string (P := P) w src dst e s hs hd he
    have hge := grownCap_ge w s.size 0 e
    have hcm := grownCap_le_maxLen w s.size 0 e hm
    have htk : (bytesRow s (grownCap w s.size 0 e)).toList.take (s.data.toList.map fun b => AV.pl (.int .u8 b.toNat)).length = s.data.toList.map fun b => Value.int .u8 b.toNat := by
      rw [List.length_map]
      simp only [bytesRow, Array.toList_append, Array.toList_map]
      have hl : s.data.toList.length = (s.data.toList.map fun b => Value.int .u8 (b.toNat : Int)).length := by rw [List.length_map]
      rw [hl]
      exact List.take_left
    have hN := h.drew.new hid hn (e := e) (s := 1) hsz (xs := s.data.toList.map fun b => AV.pl (.int .u8 b.toNat)) (c := bytesRow s (grownCap w s.size 0 e)) (by
      rw [htk]
      have := CR.pls σ (s.data.toList.map fun b => Value.int .u8 (b.toNat : Int))
      rw [List.map_map] at this
      exact this) ((bytesRow s (grownCap w s.size 0 e)).size, (bytesRow s (grownCap w s.size 0 e)).size + 1) false id (fun hf => by cases hf)
    refine ⟨_, _, _, hr, New.set hid _, hN, ?_, rfl⟩
    exact .sl (σ := σ.set id _) (l := ⟨w.heap.size, 0, _, 1, false⟩) (Ren.set_at _ _ _) hge hcm (.inr rfl) (fun hf => by cases hf)
  · rename_i e i off len es hs hd
    split at ha
    case h_2 => cases ha
    rename_i o he ho
    split at ha
    case isFalse => cases ha
    rename_i hlen0
    obtain ⟨ns, hns, hyy⟩ := Option.map_eq_some_iff.1 ha
    simp only [Prod.mk.injEq] at hyy
    obtain ⟨rfl, rfl⟩ := hyy
    by_cases hz : len = 0
    · subst hz
      simp only [List.take_zero, List.mapM_nil, Option.pure_def, Option.some.injEq] at hns
      subst hns
      cases hv with
      | sl hi hc hm hq hl =>
      refine ⟨_, w, σ, ?_, New.refl σ id, h, .pl _, rfl⟩
      rw [run_convert_bytes_string w src dst e _ _ _ hs he hd, run_bytesToString w _ 0 _ [] (by simp [loadCells, loadCellsFrom])]
    rw [if_neg hz] at ho
    have hlen := hlen0.resolve_left hz
    cases hv with
    | sl hi hc hm hq hl =>
    rename_i cap q l
    obtain ⟨vs, hvl, hcr, hcell⟩ := h.range ho hi hlen
    have hvs := nums_of hcr hns
    have hload : (loadCells ⟨l.blk, q, none⟩ len).run P w = .ok (ns.map (Value.int .u8)).toArray w := by
      have := run_loadCells_list (P := P) w ⟨l.blk, q, none⟩ vs (fun j u hu => by
        have hj : j < vs.length := (List.getElem?_eq_some_iff.1 hu).1
        have : cap ≠ 0 := by
          intro e5
          obtain rfl : len = 0 := by omega
          rw [hvl] at hj
          simp at hj
        rw [add_at, hq.resolve_left this]
        exact hcell j u hu)
      rw [hvl, hvs] at this
      exact this
    refine ⟨_, w, σ, ?_, New.refl σ id, h, .pl _, rfl⟩
    rw [run_convert_bytes_string w src dst e _ _ _ hs he hd, run_bytesToString w _ len cap ns hload]
  · rename_i e q c0 hs hd
    split at ha
    case h_2 => cases ha
    rename_i he
    simp only [Option.some.injEq, Prod.mk.injEq] at ha
    obtain ⟨rfl, rfl⟩ := ha
    cases hv
    refine ⟨_, w, σ, ?_, New.refl σ id, h, .pl _, rfl⟩
    rw [run_convert_bytes_string w src dst e _ _ _ hs he hd]
    cases q with
    | none => rfl
    | some q =>
      rw [run_bytesToString w _ 0 _ [] (by simp [loadCells, loadCellsFrom])]
      rfl
  · rename_i e0 e hs hd
    split at ha
    case isFalse => cases ha
    rename_i hsd
    unfold amark at ha
    split at ha
    case h_2 => cases ha
    rename_i i off len es
    split at ha
    case h_2 => cases ha
    rename_i o he ho
    split at ha
    case isFalse => cases ha
    rename_i hown
    simp only [Option.some.injEq, Prod.mk.injEq] at ha
    obtain ⟨rfl, rfl⟩ := ha
    cases hv with
    | sl hi hc hm hq hl =>
    rename_i cap q l
    obtain ⟨l2, hl2, hob⟩ := h.obj i o ho
    rw [hi] at hl2
    cases hl2
    have hob2 := hob
    obtain ⟨h1, c1, e1, fz1, h2, h3, h4⟩ := hob2
    have hlo : l.own = true := by rw [← h1]; exact hown
    have hlt := h.lt hi
    have hget : w.heap[l.blk] = .cells c1 e1 fz1 := by
      rw [Array.getElem?_eq_getElem hlt] at h2
      exact Option.some.inj h2
    have hsh : w.shape? l.blk = some (e1, c1.size) := by
      unfold World.shape?
      rw [h2]
    have hfr : w.freeze ⟨l.blk, c1.size, none⟩ 1 = { w with heap := w.heap.modify l.blk fun | .cells c elem (lo, hi) => .cells c elem (if lo == hi then (c1.size, c1.size + 1) else (min lo c1.size, max hi (c1.size + 1))) | o => o } := by
      unfold World.freeze
      rw [if_neg (by decide)]
      rfl
    subst hsd
    obtain rfl : e0 = e := by rw [hs] at hd; cases hd; rfl
    have hrun : (convert src src (.slice (some ⟨l.blk, q, none⟩) len cap)).run P w = .ok (.slice (some ⟨l.blk, q, none⟩) len cap) (w.freeze ⟨l.blk, c1.size, none⟩ 1) := by
      simp [convert, run_underlying hs, run_underlying hd, run_underlying he, markStringish, hsh]
    refine ⟨_, _, _, hrun, New.set hid _, h.mark ho hi hlo h2 hid hn (match fz1 with | (lo, hi) => if lo == hi then (c1.size, c1.size + 1) else (min lo c1.size, max hi (c1.size + 1))) (by rw [hfr]) (by rw [hfr]) (by rw [hfr]) (by rw [hfr]; simp) ?_ ?_, ?_, rfl⟩
    · rw [hfr]
      simp only [Array.getElem?_modify, if_true, h2, Option.map_some]
    · intro k hk
      rw [hfr]
      simp only [Array.getElem?_modify]
      rw [if_neg (fun e => hk e.symm)]
    · exact .sl (l := ⟨l.blk, l.base, l.lim, l.esz, false⟩) (Ren.set_at _ _ _) hc hm hq (fun hf => by cases hf)
  · cases ha
theorem put_n (st : St) (i : Nat) (o : AObj) : (st.put i o).n = st.n := rfl
theorem kill_n (st : St) (i : Nat) : (st.kill i).n = st.n := rfl
theorem aappend_n {id : Nat} {t : TypeId} {s x y : AV} {st' : St} (ha : aappend P st id t s x = some (y, st')) : st'.n = st.n := by
  unfold aappend at ha
  repeat' split at ha
  all_goals first
    | (cases ha; done)
    | (simp only [Option.some.injEq, Prod.mk.injEq] at ha; obtain ⟨_, rfl⟩ := ha; first | rfl | (split <;> rfl))
theorem isSlice_of {d : Option TypeDesc} (h : isSliceD d = true) : ∃ e, d = some (.slice e) := by
  unfold isSliceD at h
  split at h
  · exact ⟨_, rfl⟩
  · cases h
theorem isStr_of {d : Option TypeDesc} (h : isStrD d = true) : d = some .string := by
  unfold isStrD at h
  split at h
  · rfl
  · cases h
theorem sim_builtin (h : Sim P w0 σ st w) {id : Nat} (hid : σ id = none) (hn : id < st.n) {b : Builtin} {ts : Array TypeId} {ty : TypeId} {cs : Array Bool} {xs : List AV} {vs : List Value} {y : AV} {st' : St} (hx : CR σ xs vs) (ha : abuiltin P st id b ts xs = some (y, st')) :
    ∃ r w' σ', (builtin b ts ty cs vs.toArray).run P w = .ok (.value r) w' ∧ New σ σ' id ∧ Sim P w0 σ' st' w' ∧ VR σ' y r ∧ st'.n = st.n := by
  have two : ∀ {a b : AV}, xs = [a, b] → ∃ u v, vs = [u, v] ∧ VR σ a u ∧ VR σ b v := by
    intro a b he
    subst he
    have hl := hx.1
    match vs, hl with
    | [u, v], _ => exact ⟨u, v, rfl, hx.2 0 a u rfl rfl, hx.2 1 b v rfl rfl⟩
  have one : ∀ {a : AV}, xs = [a] → ∃ u, vs = [u] ∧ VR σ a u := by
    intro a he
    subst he
    have hl := hx.1
    match vs, hl with
    | [u], _ => exact ⟨u, rfl, hx.2 0 a u rfl rfl⟩
  have len : ∀ {v : Value} {n : Nat}, vs = [v] → (∃ e q c, (ts[0]?).bind P.underlying = some (.slice e) ∧ v = .slice q n c) ∨ (∃ s : ByteArray, (ts[0]?).bind P.underlying = some .string ∧ v = .string s ∧ n = s.size) → (builtin .len ts ty cs vs.toArray).run P w = .ok (.value (.int .i64 n)) w := by
    intro v n hv hcase
    subst hv
    rcases hcase with ⟨e, q, c, h1, rfl⟩ | ⟨s, h1, rfl, rfl⟩
    · obtain ⟨t, ht, hu⟩ := Option.bind_eq_some_iff.1 h1
      simp [builtin, Builtin.len_, ht, run_underlying hu, goInt]
    · obtain ⟨t, ht, hu⟩ := Option.bind_eq_some_iff.1 h1
      simp [builtin, Builtin.len_, ht, run_underlying hu, goInt]
  unfold abuiltin at ha
  split at ha
  · obtain ⟨v0, hv0, hyy⟩ := Option.map_eq_some_iff.1 ha
    simp only [Prod.mk.injEq] at hyy
    obtain ⟨rfl, rfl⟩ := hyy
    unfold alen at hv0
    split at hv0
    · split at hv0
      case isFalse => cases hv0
      rename_i hd
      cases hv0
      obtain ⟨u, hu, hr⟩ := one rfl
      obtain ⟨e, he⟩ := isSlice_of hd
      cases hr with
      | sl hi hc hm hq hl => exact ⟨_, w, σ, len hu (.inl ⟨e, _, _, he, rfl⟩), New.refl σ id, h, .pl _, rfl⟩
    · split at hv0
      case isFalse => cases hv0
      rename_i hd
      cases hv0
      obtain ⟨u, hu, hr⟩ := one rfl
      obtain ⟨e, he⟩ := isSlice_of hd
      cases hr
      exact ⟨_, w, σ, len hu (.inl ⟨e, _, _, he, rfl⟩), New.refl σ id, h, .pl _, rfl⟩
    · split at hv0
      case isFalse => cases hv0
      rename_i hd
      cases hv0
      obtain ⟨u, hu, hr⟩ := one rfl
      cases hr
      exact ⟨_, w, σ, len hu (.inr ⟨_, isStr_of hd, rfl, rfl⟩), New.refl σ id, h, .pl _, rfl⟩
    · cases hv0
  · obtain ⟨v0, hv0, hyy⟩ := Option.map_eq_some_iff.1 ha
    simp only [Prod.mk.injEq] at hyy
    obtain ⟨rfl, rfl⟩ := hyy
    unfold amin at hv0
    split at hv0
    case h_2 => cases hv0
    cases hv0
    obtain ⟨u, v, rfl, hu, hv⟩ := two rfl
    cases hu; cases hv
    exact ⟨_, w, σ, by simp [builtin, Builtin.min_, Builtin.min2], New.refl σ id, h, .pl _, rfl⟩
  · obtain ⟨v0, hv0, hyy⟩ := Option.map_eq_some_iff.1 ha
    simp only [Prod.mk.injEq] at hyy
    obtain ⟨rfl, rfl⟩ := hyy
    unfold amax at hv0
    split at hv0
    case h_2 => cases hv0
    cases hv0
    obtain ⟨u, v, rfl, hu, hv⟩ := two rfl
    cases hu; cases hv
    exact ⟨_, w, σ, by simp [builtin, Builtin.max_, Builtin.max2], New.refl σ id, h, .pl _, rfl⟩
  · split at ha
    case h_2 => cases ha
    split at ha
    case isFalse => cases ha
    rename_i hts
    obtain ⟨u, v, rfl, hu, hv⟩ := two rfl
    obtain ⟨r, w', σ', hr, hN, hS, hV⟩ := sim_append h hid hn (ty := ty) hu hv ha
    refine ⟨r, w', σ', ?_, hN, hS, hV, aappend_n ha⟩
    rw [hts]
    simp only [builtin, Sem.run_bind, hr, Result.andThen_ok, Sem.run_pure]
  · cases ha
theorem sim_opt {fr : AFr} {a : Act} (hF : FR σ fr a) (o : Option Operand) : (∀ x, o.map (aeval fr) = some x → ∃ v, o.map a.eval = some v ∧ VR σ x v) ∧ (o.map (aeval fr) = none → o.map a.eval = none) := by
  cases o with
  | none => exact ⟨fun x hx => by simp at hx, fun _ => rfl⟩
  | some p => exact ⟨fun x hx => by simp only [Option.map_some, Option.some.injEq] at hx; subst hx; exact ⟨_, rfl, hF.eval p⟩, fun hx => by simp at hx⟩
theorem CR.map {fr : AFr} {a : Act} (hF : FR σ fr a) (l : List Operand) : CR σ (l.map (aeval fr)) (l.map a.eval) := ⟨by simp, fun j x v hx hv => by
  rw [List.getElem?_map] at hx hv
  obtain ⟨p, hp, rfl⟩ := Option.map_eq_some_iff.1 hx
  rw [hp] at hv
  simp only [Option.map_some, Option.some.injEq] at hv
  subst hv
  exact hF.eval p⟩
/-- An operation that is no call of a function. -/
theorem aop_run (h : Sim P w0 σ st w) {id : Nat} (hid : σ id = none) (hn : id < st.n) {fr : AFr} {a : Act} (hF : FR σ fr a) {call : ACall} {o : Oper} {y : AV} {st' : St} (hnc : ∀ c f, o.op = .call c → c.callee ≠ .value f) (ha : aop P call id o fr st = some (y, st')) :
    ∃ r v w' σ', (execOp a.eval o).run P w = r ∧ (r = .ok (.value v) w' ∨ (r = .ok .skip w' ∧ v = undef)) ∧ New σ σ' id ∧ Sim P w0 σ' st' w' ∧ VR σ' y v ∧ st'.n = st.n := by
  unfold aop at ha
  split at ha
  · rename_i x ho
    simp only [Option.some.injEq, Prod.mk.injEq] at ha
    obtain ⟨rfl, rfl⟩ := ha
    exact ⟨_, _, w, σ, by simp only [execOp, ho]; rfl, .inl rfl, New.refl σ id, h, hF.eval x, rfl⟩
  · rename_i x ho
    simp only [Option.some.injEq, Prod.mk.injEq] at ha
    obtain ⟨rfl, rfl⟩ := ha
    exact ⟨_, _, w, σ, by simp only [execOp, ho]; rfl, .inl rfl, New.refl σ id, h, hF.eval x, rfl⟩
  · rename_i c p q ho
    split at ha
    case h_2 => cases ha
    rename_i t hc
    simp only [Option.some.injEq, Prod.mk.injEq] at ha
    obtain ⟨rfl, rfl⟩ := ha
    have he := hF.eval c
    rw [hc] at he
    generalize hcv : a.eval c = cv at he
    cases he
    refine ⟨_, if t then a.eval p else a.eval q, w, σ, by simp only [execOp, ho, hcv]; rfl, .inl rfl, New.refl σ id, h, ?_, rfl⟩
    cases t
    · exact hF.eval q
    · exact hF.eval p
  · rename_i e ho
    split at ha
    case h_2 => cases ha
    rename_i cs s hz hs
    simp only [Option.some.injEq, Prod.mk.injEq] at ha
    obtain ⟨rfl, rfl⟩ := ha
    obtain ⟨r, w', σ', hr, hN, hS, hV⟩ := sim_alloc h hid hn hs hz
    exact ⟨_, r, w', σ', by simp only [execOp, ho, Sem.run_bind, hr, Result.andThen_ok, Sem.run_pure], .inl rfl, hN, hS, hV, rfl⟩
  · rename_i e x ho
    split at ha
    case h_2 => cases ha
    rename_i s hs
    split at ha
    case isFalse => cases ha
    rename_i hsol
    simp only [Option.some.injEq, Prod.mk.injEq] at ha
    obtain ⟨rfl, rfl⟩ := ha
    obtain ⟨r, w', σ', hr, hN, hS, hV⟩ := sim_box h hid hn hs (hF.eval x) hsol
    exact ⟨_, r, w', σ', by simp only [execOp, ho, Sem.run_bind, hr, Result.andThen_ok, Sem.run_pure], .inl rfl, hN, hS, hV, rfl⟩
  · rename_i t ps ho
    obtain ⟨v, hv, hyy⟩ := Option.map_eq_some_iff.1 ha
    simp only [Prod.mk.injEq] at hyy
    obtain ⟨rfl, rfl⟩ := hyy
    unfold abuild at hv
    split at hv
    case h_2 => cases hv
    rename_i fs z ht hz
    split at hv
    case isFalse => cases hv
    rename_i hall
    obtain ⟨cs, hcs, rfl⟩ := Option.map_eq_some_iff.1 hv
    obtain ⟨r, hr, hV⟩ := sim_build hF ht hz hall hcs w
    exact ⟨_, r, w, σ, by simp only [execOp, ho, Sem.run_bind, hr, Result.andThen_ok, Sem.run_pure], .inl rfl, New.refl σ id, h, hV, rfl⟩
  · rename_i t len ps ho
    obtain ⟨v, hv, hyy⟩ := Option.map_eq_some_iff.1 ha
    simp only [Prod.mk.injEq] at hyy
    obtain ⟨rfl, rfl⟩ := hyy
    unfold abuildSlice at hv
    split at hv
    case h_2 => cases hv
    rename_i e ht
    split at hv
    case h_2 => cases hv
    rename_i s z hs hz
    split at hv
    case isFalse => cases hv
    rename_i hcond
    obtain ⟨c1, c2, c3, c4⟩ := hcond
    obtain ⟨cs, hcs, rfl⟩ := Option.map_eq_some_iff.1 hv
    obtain ⟨r, w', σ', hr, hN, hS, hV⟩ := sim_buildSlice h hid hn hF ht hs hz c1 c2 c3 c4 hcs
    exact ⟨_, r, w', σ', by simp only [execOp, ho, Sem.run_bind, hr, Result.andThen_ok, Sem.run_pure], .inl rfl, hN, hS, hV, rfl⟩
  · rename_i t l c ho
    obtain ⟨v, hv, hyy⟩ := Option.map_eq_some_iff.1 ha
    simp only [Prod.mk.injEq] at hyy
    obtain ⟨rfl, rfl⟩ := hyy
    unfold amakeSlice at hv
    split at hv
    case h_2 => cases hv
    rename_i e k n k2 m ht hl hc
    split at hv
    case h_2 => cases hv
    rename_i i hi
    split at hv
    case h_2 => cases hv
    rename_i z hz
    split at hv
    case isFalse => cases hv
    rename_i hcond
    obtain ⟨c0, rfl, c1, c2, c3⟩ := hcond
    simp only [Option.some.injEq] at hv
    subst hv
    have h1 := hF.eval l
    have h2 := hF.eval c
    rw [hl] at h1
    rw [hc] at h2
    generalize hlv : a.eval l = lv at h1
    generalize hcv : a.eval c = cv at h2
    cases h1; cases h2
    obtain ⟨r, w', σ', hr, hN, hS, hV⟩ := sim_makeSlice h hid hn (kl := k) (kc := k2) ht hi hz c0 c1 c2 c3
    exact ⟨_, r, w', σ', by simp only [execOp, ho, hlv, hcv, Sem.run_bind, hr, Result.andThen_ok, Sem.run_pure], .inl rfl, hN, hS, hV, rfl⟩
  · rename_i t x ho
    obtain ⟨v, hv, hyy⟩ := Option.map_eq_some_iff.1 ha
    simp only [Prod.mk.injEq] at hyy
    obtain ⟨rfl, rfl⟩ := hyy
    obtain ⟨u, hu, hV⟩ := sim_load h (hF.eval x) hv
    exact ⟨_, u, w, σ, by simp only [execOp, ho, Sem.run_bind, hu, Result.andThen_ok, Sem.run_pure], .inl rfl, New.refl σ id, h, hV, rfl⟩
  · rename_i t x v ho
    obtain ⟨st2, hst, hyy⟩ := Option.map_eq_some_iff.1 ha
    simp only [Prod.mk.injEq] at hyy
    obtain ⟨rfl, rfl⟩ := hyy
    obtain ⟨w', hw, hS⟩ := sim_store h (hF.eval x) (hF.eval v) hst
    refine ⟨_, undef, w', σ, by simp only [execOp, ho, Sem.run_bind, hw, Result.andThen_ok, Sem.run_pure], .inr ⟨rfl, rfl⟩, New.refl σ id, hS, .pl _, ?_⟩
    unfold astore at hst
    repeat' split at hst
    all_goals first
      | (cases hst; done)
      | (simp only [Option.some.injEq] at hst; rw [← hst]; rfl)
  · rename_i x ho
    split at ha
    · rename_i i off hx
      simp only [Option.some.injEq, Prod.mk.injEq] at ha
      obtain ⟨rfl, rfl⟩ := ha
      have h1 := hF.eval x
      rw [hx] at h1
      generalize hxv : a.eval x = xv at h1
      cases h1 with
      | ptr hi => exact ⟨_, _, w, σ, by simp only [execOp, ho, hxv]; rfl, .inl rfl, New.refl σ id, h, .ptr hi, rfl⟩
    · rename_i f cs hx
      simp only [Option.some.injEq, Prod.mk.injEq] at ha
      obtain ⟨rfl, rfl⟩ := ha
      have h1 := hF.eval x
      rw [hx] at h1
      generalize hxv : a.eval x = xv at h1
      cases h1 with
      | fn hn hh => exact ⟨_, _, w, σ, by simp only [execOp, ho, hxv]; rfl, .inl rfl, New.refl σ id, h, .fn hn hh, rfl⟩
    · cases ha
  · rename_i op t x y' ty ho
    obtain ⟨v, hv, hyy⟩ := Option.map_eq_some_iff.1 ha
    simp only [Prod.mk.injEq] at hyy
    obtain ⟨rfl, rfl⟩ := hyy
    have hr := sim_bin (ox := x) (oy := y') (hF.eval x) (hF.eval y') hv w
    exact ⟨_, v, w, σ, by simp only [execOp, ho, Sem.run_bind] at hr ⊢; simp only [hr, Result.andThen_ok, Sem.run_pure], .inl rfl, New.refl σ id, h, .pl _, rfl⟩
  · rename_i op ty x ho
    obtain ⟨v, hv, hyy⟩ := Option.map_eq_some_iff.1 ha
    simp only [Prod.mk.injEq] at hyy
    obtain ⟨rfl, rfl⟩ := hyy
    have hr := sim_un (P := P) (hF.eval x) hv w
    exact ⟨_, v, w, σ, by simp only [execOp, ho, Sem.run_bind, hr, Result.andThen_ok, Sem.run_pure], .inl rfl, New.refl σ id, h, .pl _, rfl⟩
  · rename_i src dst x ho
    obtain ⟨r, w', σ', hr, hN, hS, hV, hnn⟩ := sim_convert h hid hn (hF.eval x) ha
    exact ⟨_, r, w', σ', by simp only [execOp, ho, Sem.run_bind, hr, Result.andThen_ok, Sem.run_pure], .inl rfl, hN, hS, hV, hnn⟩
  · rename_i t x lo hi mx ho
    split at ha
    case isFalse => cases ha
    rename_i hmx
    obtain ⟨v, hv, hyy⟩ := Option.map_eq_some_iff.1 ha
    simp only [Prod.mk.injEq] at hyy
    obtain ⟨rfl, rfl⟩ := hyy
    obtain rfl : mx = none := by simpa using hmx
    obtain ⟨l1, l2⟩ := sim_opt hF lo
    obtain ⟨h1, h2⟩ := sim_opt hF hi
    obtain ⟨r, hr, hV⟩ := sim_slice (P := P) (w := w) (hF.eval x) l1 l2 h1 h2 hv
    exact ⟨_, r, w, σ, by simp only [execOp, ho, Sem.run_bind, Option.map_none, hr, Result.andThen_ok, Sem.run_pure], .inl rfl, New.refl σ id, h, hV, rfl⟩
  · rename_i t x f ho
    obtain ⟨v, hv, hyy⟩ := Option.map_eq_some_iff.1 ha
    simp only [Prod.mk.injEq] at hyy
    obtain ⟨rfl, rfl⟩ := hyy
    obtain ⟨r, hr, hV⟩ := sim_fieldAddr (P := P) (w := w) (hF.eval x) hv
    exact ⟨_, r, w, σ, by simp only [execOp, ho, Sem.run_bind, hr, Result.andThen_ok, Sem.run_pure], .inl rfl, New.refl σ id, h, hV, rfl⟩
  · rename_i t x f ho
    split at ha
    case h_2 => cases ha
    rename_i fs xs ht hx
    split at ha
    case h_2 => cases ha
    rename_i fd hfd
    obtain ⟨v, hv, hyy⟩ := Option.map_eq_some_iff.1 ha
    simp only [Prod.mk.injEq] at hyy
    obtain ⟨rfl, rfl⟩ := hyy
    have h1 := hF.eval x
    rw [hx] at h1
    generalize hxv : a.eval x = xv at h1
    cases h1 with
    | agg hl hh =>
    rename_i vs
    have hcr : CR σ xs vs.toList := ⟨by simpa using hl, fun j x v hx hv => hh j x v hx (by simpa using hv)⟩
    unfold apart_ at hv
    split at hv
    case h_2 => cases hv
    rename_i d s hd hs
    split at hv
    · rename_i hag
      cases hv
      have hk := (hcr.drop fd.offset).take s
      refine ⟨_, .agg (vs.extract fd.offset (fd.offset + s)), w, σ, ?_, .inl rfl, New.refl σ id, h, .agg ?_ ?_, rfl⟩
      · simp only [execOp, ho, hxv, Instr.field, Sem.run_bind, run_underlying ht, Result.andThen_ok, hfd, asAgg, Sem.run_pure, part, agg_run hd, hag, if_true, sz_run hs]
      · have := hk.1
        rw [this]
        simp
        omega
      · intro j x v hx hv
        refine hk.2 j x v hx ?_
        rw [← hv, Array.getElem?_extract]
        rw [List.getElem?_take, List.getElem?_drop]
        simp only [Array.getElem?_toList]
        by_cases hj : j < s
        · rw [if_pos hj]
          by_cases hj2 : fd.offset + j < vs.size
          · rw [if_pos (by omega)]
          · rw [if_neg (by omega)]
            exact Array.getElem?_eq_none (by omega)
        · rw [if_neg hj, if_neg (by omega)]
    · rename_i hag
      obtain ⟨u, hu, hr⟩ := hcr.at hv
      refine ⟨_, u, w, σ, ?_, .inl rfl, New.refl σ id, h, hr, rfl⟩
      have hag2 : aggD d = false := by simpa using hag
      have hu2 : vs[fd.offset]? = some u := by simpa using hu
      simp only [execOp, ho, hxv, Instr.field, Sem.run_bind, run_underlying ht, Result.andThen_ok, hfd, asAgg, Sem.run_pure, part, agg_run hd, hag2, Bool.false_eq_true, if_false, hu2]
  · rename_i t x ix ho
    obtain ⟨v, hv, hyy⟩ := Option.map_eq_some_iff.1 ha
    simp only [Prod.mk.injEq] at hyy
    obtain ⟨rfl, rfl⟩ := hyy
    obtain ⟨r, hr, hV⟩ := sim_indexAddr (P := P) (w := w) (hF.eval x) (hF.eval ix) hv
    exact ⟨_, r, w, σ, by simp only [execOp, ho, Sem.run_bind, hr, Result.andThen_ok, Sem.run_pure], .inl rfl, New.refl σ id, h, hV, rfl⟩
  · rename_i t x ix ho
    obtain ⟨v, hv, hyy⟩ := Option.map_eq_some_iff.1 ha
    simp only [Prod.mk.injEq] at hyy
    obtain ⟨rfl, rfl⟩ := hyy
    unfold aindex at hv
    split at hv
    case h_2 => cases hv
    rename_i s k n ht hx hix
    split at hv
    case isFalse => cases hv
    rename_i h0
    obtain ⟨b, hb, rfl⟩ := Option.map_eq_some_iff.1 hv
    have h1 := hF.eval x
    have h2 := hF.eval ix
    rw [hx] at h1
    rw [hix] at h2
    generalize hxv : a.eval x = xv at h1
    generalize hiv : a.eval ix = iv at h2
    cases h1; cases h2
    exact ⟨_, _, w, σ, by simp only [execOp, ho, hxv, hiv, Instr.index, asIntOf, Sem.run_bind, Sem.run_pure, Result.andThen_ok, run_underlying ht, h0, if_true, hb], .inl rfl, New.refl σ id, h, .pl _, rfl⟩
  · rename_i x ix ho
    split at ha
    case h_2 => cases ha
    rename_i xs hx
    obtain ⟨v, hv, hyy⟩ := Option.map_eq_some_iff.1 ha
    simp only [Prod.mk.injEq] at hyy
    obtain ⟨rfl, rfl⟩ := hyy
    have h1 := hF.eval x
    rw [hx] at h1
    generalize hxv : a.eval x = xv at h1
    cases h1 with
    | tup hl hh =>
    rename_i vs
    have hj : ix < vs.size := by rw [← hl]; exact (List.getElem?_eq_some_iff.1 hv).1
    refine ⟨_, vs[ix], w, σ, ?_, .inl rfl, New.refl σ id, h, hh ix v _ hv (Array.getElem?_eq_getElem hj), rfl⟩
    simp only [execOp, ho, hxv, Instr.extract, Sem.run_bind, Array.getElem?_eq_getElem hj, Sem.run_pure, Result.andThen_ok]
  · rename_i f first captured ho
    split at ha
    case isFalse => cases ha
    rename_i hfi
    simp only [Option.some.injEq, Prod.mk.injEq] at ha
    obtain ⟨rfl, rfl⟩ := ha
    obtain rfl : first = #[] := by simpa using hfi
    have hcr := CR.map hF captured.toList
    refine ⟨_, .func (.func f) #[] (captured.map a.eval), w, σ, ?_, .inl rfl, New.refl σ id, h, .fn (by simp) (fun j x v hx hv => hcr.2 j x v hx (by simpa using hv)), rfl⟩
    simp only [execOp, ho, Instr.makeFunc, Sem.run_bind, Sem.run_pure, Result.andThen_ok, Array.map_empty]
  · rename_i c ho
    split at ha
    · rename_i b hb
      have hcr := CR.map hF c.args.toList
      obtain ⟨r, w', σ', hr, hN, hS, hV, hnn⟩ := sim_builtin h hid hn (ty := o.type) (cs := c.args.map fun | .const _ => true | _ => false) hcr ha
      refine ⟨_, r, w', σ', ?_, .inl rfl, hN, hS, hV, hnn⟩
      have e : (c.args.toList.map a.eval).toArray = c.args.map a.eval := by
        apply Array.toList_inj.1
        simp
      rw [e] at hr
      simp only [execOp, ho, resolve, hb, Sem.run_bind, Sem.run_pure, Result.andThen_ok, invoke]
      exact hr
    · rename_i f hf
      exact absurd hf (hnc c f ho)
    · cases ha
  · cases ha
end
end Go.Proofs.YtjpgpkkbmoehdaaDoor.Ra
