/- What the operations come to in the machine: structs and slices written out. -/
import Derived.Test.YtjpgpkkbmoehdaaDoorRe
namespace Go.Proofs.YtjpgpkkbmoehdaaDoor.Ra
open Go Go.RowKit
set_option linter.unusedVariables false
set_option linter.unusedSimpArgs false
section
variable {P : Program} {w0 : World} {σ : Ren} {st : St} {w : World}
theorem mapM_fields (fs : Array Field) (h : fs.all (fun f : Field => (szOf P f.type).isSome) = true) (w : World) :
    (fs.mapM fun f => do pure (f.offset, ← sizeOf f.type) : Sem (Array (Nat × Nat))).run P w = .ok (fs.map fun f : Field => (f.offset, (szOf P f.type).getD 0)) w := by
  have key : ∀ (l : List Field), (∀ f ∈ l, (szOf P f.type).isSome = true) → (l.mapM fun f => do pure (f.offset, ← sizeOf f.type) : Sem (List (Nat × Nat))).run P w = .ok (l.map fun f => (f.offset, (szOf P f.type).getD 0)) w := by
    intro l
    induction l with
    | nil => intro _; rfl
    | cons f r ih =>
      intro hl
      obtain ⟨s, hs⟩ := Option.isSome_iff_exists.1 (hl f (by simp))
      simp only [List.mapM_cons, Sem.run_bind, sz_run hs, Result.andThen_ok, Sem.run_pure, ih (fun g hg => hl g (by simp [hg])), List.map_cons, hs, Option.getD_some]
  have h2 := key fs.toList (fun f hf => by
    have := Array.all_eq_true_iff_forall_mem.1 h f (Array.mem_toList_iff.1 hf)
    exact this)
  rw [Array.mapM_eq_mapM_toList]
  simp only [map_eq_pure_bind, Sem.run_bind, h2, Result.andThen_ok, Sem.run_pure]
  congr 1
  apply Array.toList_inj.1
  simp
theorem sim_build {fr : AFr} {a : Act} (hF : FR σ fr a) {t : TypeId} {fs : Array Field} {z : List AV} {cs : List AV} {ps : Array (Nat × Operand)} (ht : P.underlying t = some (.struct fs)) (hz : zcells P t = some z) (hall : fs.all (fun f : Field => (szOf P f.type).isSome) = true)
    (h : afill (fun i : Nat => (fs[i]?).bind fun f : Field => (szOf P f.type).map fun s => (f.offset, s)) z (ps.toList.map fun p => (p.1, aeval fr p.2)) = some cs) (w : World) :
    ∃ r, (Instr.build t (ps.map fun (i, x) => (i, a.eval x))).run P w = .ok r w ∧ VR σ (.agg cs) r := by
  obtain ⟨zv, hzv, rfl⟩ := Option.map_eq_some_iff.1 hz
  obtain ⟨vcs, h1, h2⟩ := sim_fill hF _ ps.toList _ zv.cells cs (CR.pls σ _) h
  refine ⟨.agg vcs, ?_, .agg (by simpa using h2.1) (fun j x v hx hv => h2.2 j x v hx (by simpa using hv))⟩
  have hpl : (fun i : Nat => (fs.map fun f : Field => (f.offset, (szOf P f.type).getD 0))[i]?) = (fun i : Nat => (fs[i]?).bind fun f : Field => (szOf P f.type).map fun s => (f.offset, s)) := by
    funext i
    rw [Array.getElem?_map]
    cases hf : fs[i]? with
    | none => rfl
    | some f =>
      have := Array.all_eq_true_iff_forall_mem.1 hall f (Array.mem_of_getElem? hf)
      obtain ⟨s, hs⟩ := Option.isSome_iff_exists.1 this
      simp [hs]
  have h3 : Instr.fill (fun i : Nat => (fs.map fun f : Field => (f.offset, (szOf P f.type).getD 0))[i]?) zv.cells (ps.map fun (i, x) => (i, a.eval x)).toList = some vcs := by
    rw [hpl, Array.toList_map]
    exact h1
  simp only [Instr.build, Sem.run_bind, zero_run hzv, Result.andThen_ok, run_underlying ht, mapM_fields fs hall, h3, Sem.run_pure]
theorem sim_buildSlice (h : Sim P w0 σ st w) {id : Nat} (hid : σ id = none) (hn : id < st.n) {fr : AFr} {a : Act} (hF : FR σ fr a) {t e : TypeId} {s len : Nat} {z : Value} {cs : List AV} {ps : Array (Nat × Operand)} (ht : P.underlying t = some (.slice e)) (hs : szOf P e = some s) (hz : (P.info? e).bind (·.zero) = some z)
    (hs0 : 0 < s) (hb : len * s ≤ 2 ^ 24) (hm : len ≤ maxLen) (hzs : z.cells.size = s)
    (hf : afill (fun i => some (i * s, s)) (((Array.range (len * s)).map (z.cells[· % z.cells.size]!)).toList.map .pl) (ps.toList.map fun p => (p.1, aeval fr p.2)) = some cs) :
    ∃ r w' σ', (Instr.buildSlice t len (ps.map fun (i, x) => (i, a.eval x))).run P w = .ok r w' ∧ New σ σ' id ∧ Sim P w0 σ' (st.put id ⟨cs, e, true, id⟩) w' ∧ VR σ' (.sl id 0 len s) r := by
  obtain ⟨vcs, h1, h2⟩ := sim_fill hF _ ps.toList _ ((Array.range (len * s)).map (z.cells[· % z.cells.size]!)) cs (CR.pls σ _) hf
  have hlen : ∀ (q : List (Nat × Value)) (c0 c1 : Array Value), Instr.fill (fun i => some (i * s, s)) c0 q = some c1 → c1.size = c0.size := by
    intro q
    induction q with
    | nil => intro c0 c1 hq; simp only [Instr.fill, Option.some.injEq] at hq; rw [hq]
    | cons p r ih =>
      intro c0 c1 hq
      obtain ⟨i, v⟩ := p
      simp only [Instr.fill] at hq
      split at hq
      · cases hq
      · rename_i hcond
        simp only [Bool.or_eq_true, decide_eq_true_eq, not_or] at hcond
        have := ih _ _ hq
        rw [this]
        have e := fill_cells (i * s) v.cells c0 (by omega)
        have e3 := congrArg List.length e
        simp only [Array.length_toList, List.length_append, List.length_take, List.length_drop] at e3
        have e4 : (Array.foldl (fun cs (x : Value × Nat) => match x with | (c, j) => cs.setIfInBounds (i * s + j) c) c0 v.cells.zipIdx).size = _ := e3
        rw [e4]
        omega
  have hsz := hlen _ _ _ h1
  simp only [Array.size_map, Array.size_range] at hsz
  have hN := h.new hid hn (e := e) hs (xs := cs) (c := vcs) (by rw [List.take_of_length_le (by have := h2.1; omega)]; exact h2) (0, 0) true id (fun _ => rfl)
  refine ⟨_, _, _, ?_, New.set hid _, hN, .sl (Ren.set_at _ _ _) (Nat.le_refl _) hm (.inr rfl) (fun _ => ⟨rfl, hs0, ?_⟩)⟩
  · have hno : ¬ len * s > 16777216 := by omega
    have h3 : Instr.fill (fun i => some (i * s, s)) ((Array.range (len * s)).map (z.cells[· % z.cells.size]!)) (ps.map fun (i, x) => (i, a.eval x)).toList = some vcs := by
      rw [Array.toList_map]
      exact h1
    by_cases h0 : len * s = 0
    · have hmap : (Array.range (len * s)).map (fun i => (#[] : Array Value)[i % (#[] : Array Value).size]!) = (Array.range (len * s)).map (fun i => z.cells[i % z.cells.size]!) := by
        rw [h0]
        simp [Array.range]
      simp only [Instr.buildSlice, Sem.run_bind, run_underlying ht, Result.andThen_ok, sz_run hs, show (2 : Nat) ^ 24 = 16777216 from rfl, hno, if_false, if_pos h0, Sem.run_pure]
      rw [hmap, h3]
      rfl
    · simp only [Instr.buildSlice, Sem.run_bind, run_underlying ht, Result.andThen_ok, sz_run hs, show (2 : Nat) ^ 24 = 16777216 from rfl, hno, if_false, if_neg h0, Sem.run_pure, zero_run hz]
      rw [h3]
      rfl
  · show 0 + 0 + len * s ≤ vcs.size
    omega
end
end Go.Proofs.YtjpgpkkbmoehdaaDoor.Ra
