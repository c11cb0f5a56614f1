/- Boxes of a row of bytes and a number: cursor.Writer, cursor.Reader. -/
import Derived.Test.YtinjlhhhahllhaaSfc
namespace Go.Proofs.Ytinjlhhhahllhaa.Ra
open Go Go.RowKit
set_option linter.unusedVariables false
set_option linter.unusedSimpArgs false
set_option maxRecDepth 10000
/-- A box of a row of bytes and a number. -/
def BxO (st : St) (K : Nat → Prop) (T : TypeId) (p : AV) (ys : List Int) (n : Int) : Prop :=
  ∃ i g c, p = .ptr i 0 ∧ st.get i = some ⟨[c, i64 n], T, true, g⟩ ∧ K g ∧ OwB st (fun h => K h ∧ h ≠ g) c ys
theorem BxO.keep {st st' : St} {K G : Nat → Prop} {T : TypeId} {p : AV} {ys : List Int} {n : Int} (h : BxO st K T p ys n) (hk : Keeps G st st') (hd : ∀ g, K g → ¬ G g) : BxO st' K T p ys n := by
  obtain ⟨i, g, c, h1, h2, h3, h4⟩ := h
  exact ⟨i, g, c, h1, hk.get i _ h2 (hd _ h3), h3, h4.keep hk (fun g h => hd g h.1)⟩
theorem BxO.mono {st : St} {K K' : Nat → Prop} {T : TypeId} {p : AV} {ys : List Int} {n : Int} (h : BxO st K T p ys n) (hk : ∀ g, K g → K' g) : BxO st K' T p ys n := by
  obtain ⟨i, g, c, h1, h2, h3, h4⟩ := h
  exact ⟨i, g, c, h1, h2, hk g h3, h4.mono (fun g h => ⟨hk g h.1, h.2⟩)⟩
theorem BxO.lt {st : St} (hw : WF st) {K : Nat → Prop} {T : TypeId} {p : AV} {ys : List Int} {n : Int} (h : BxO st K T p ys n) : BxO st (fun g => K g ∧ g < st.n) T p ys n := by
  obtain ⟨i, g, c, h1, h2, h3, h4⟩ := h
  exact ⟨i, g, c, h1, h2, ⟨h3, (hw i _ h2).2⟩, (h4.lt hw).mono (fun g h => ⟨⟨h.1.1, h.2⟩, h.1.2⟩)⟩
theorem BxO.solid {st : St} {K : Nat → Prop} {T : TypeId} {p : AV} {ys : List Int} {n : Int} (h : BxO st K T p ys n) : p.solid = true := by
  obtain ⟨i, g, c, rfl, _⟩ := h
  rfl
abbrev WR : TypeId := 47
abbrev RD : TypeId := 56
theorem faW0 (i off : Nat) : afieldAddr Try.prog WR (.ptr i off) 0 = some (.ptr i off) := by kernel_rfl
theorem faW1 (i off : Nat) : afieldAddr Try.prog WR (.ptr i off) 1 = some (.ptr i (off + 1)) := by kernel_rfl
theorem faR0 (i off : Nat) : afieldAddr Try.prog RD (.ptr i off) 0 = some (.ptr i off) := by kernel_rfl
theorem faR1 (i off : Nat) : afieldAddr Try.prog RD (.ptr i off) 1 = some (.ptr i (off + 1)) := by kernel_rfl
theorem bldW (x : Int) : abuild Try.prog WR [(1, i64 x)] = some (.agg [.pl (.slice none 0 0), i64 x]) := by kernel_rfl
theorem bldR {st : St} {K : Nat → Prop} {v : AV} {xs : List Int} (h : RdB st K v xs) : abuild Try.prog RD [(0, v)] = some (.agg [v, i64 0]) := by
  rcases h.isSl with ⟨q, n, c, rfl⟩ | ⟨i, off, n, es, rfl⟩ <;> kernel_rfl
theorem szWR : szOf Try.prog WR = some 2 := by kernel_rfl
theorem szRD : szOf Try.prog RD = some 2 := by kernel_rfl
theorem BxO.un {st : St} {K : Nat → Prop} {T : TypeId} {p : AV} {ys : List Int} {n : Int} (h : BxO st K T p ys n) : ∃ i g c, p = .ptr i 0 ∧ st.get i = some ⟨[c, i64 n], T, true, g⟩ ∧ K g ∧ OwB st (fun h => K h ∧ h ≠ g) c ys ∧ c.solid = true ∧ aload Try.prog st 23 (.ptr i 0) = some c ∧ aload Try.prog st 3 (.ptr i (0 + 1)) = some (i64 n) := by
  obtain ⟨i, g, c, h1, h2, h3, h4⟩ := h
  exact ⟨i, g, c, h1, h2, h3, h4, h4.solid, ldB h2 rfl, ldI h2 rfl⟩
/-- The room that a writer has. -/
def clampW (m : Int) : Int := if 1048576 < (if 0 > m then 0 else m) then 1048576 else (if 0 > m then 0 else m)
theorem newWriter_ok {st : St} (hw : WF st) (m : Int) :
    ACalls Try.prog 4 [i64 m] st (fun r s => Ext st s ∧ r.solid = true ∧ BxO s (fun g => st.n ≤ g) WR r [] (clampW m)) := by
  refine acalls_of Try.func4 rfl (by kernel_rfl) rfl ?_
  repeat (first | (refine aw_seq ?_) | (refine aw_reg0 (by simp only [SZ, Nat.reduceAdd]; exact rfl) ?_) | (refine aw_reg (by decide +kernel) (by simp only [SZ, Nat.reduceAdd]; exact rfl) ?_) | (refine aw_regS (by decide +kernel) (by simp only [SZ, Nat.reduceAdd]; exact rfl) ?_) | (refine arl_nil ?_) | (refine aw_skip ?_) | (refine aw_block ?_) | (refine aw_exit ?_) | (refine aw_ret ?_) | (refine arl_cons rfl rfl (by simp +decide only [aop, abuiltin, aeval, aintBin, bin_int, aload_bump, SS, reduceIte, reduceCtorEq, amax, amin, bldW, szWR]; exact rfl) (by first | rfl | with_reducible assumption) rfl ?_) | (refine arl_none rfl rfl (by simp +decide only [aop, abuiltin, aeval, aintBin, bin_int, aload_bump, SS, reduceIte, reduceCtorEq, amax, amin, bldW, szWR]; exact rfl) rfl rfl ?_) | (refine arl_off rfl rfl ?_))
  exact ⟨.inr rfl, _, rfl, (by repeat (first | assumption | exact Keeps.refl _ _ | (refine Keeps.bumpR ?_ _) | (refine Keeps.put ?_ (by assumption) (by simp only [n_bump, n_put, n_touch, n_kill] at *; omega)))), rfl, _, _, _, rfl, get_put _ _, (by simp only [n_bump, n_put, n_touch, n_kill] at *; omega), .inl ⟨rfl, rfl⟩⟩
theorem newReader_ok {st : St} (hw : WF st) {K : Nat → Prop} {v : AV} {xs : List Int} (h : RdB st K v xs) (hl : xs.length ≤ 140737488355327) :
    ACalls Try.prog 10 [v] st (fun r s => Ext st s ∧ r.solid = true ∧ BxO s (fun g => st.n ≤ g) RD r xs 0) := by
  have hvs := h.solid
  refine acalls_of Try.func10 rfl (by kernel_rfl) (by simp [hvs]) ?_
  repeat (first | (refine aw_seq ?_) | (refine aw_reg0 (by simp only [SZ, Nat.reduceAdd]; exact rfl) ?_) | (refine aw_reg (by decide +kernel) (by simp only [SZ, Nat.reduceAdd]; exact rfl) ?_) | (refine aw_regS (by decide +kernel) (by simp only [SZ, Nat.reduceAdd]; exact rfl) ?_) | (refine arl_nil ?_) | (refine aw_skip ?_) | (refine aw_block ?_) | (refine aw_exit ?_) | (refine aw_ret ?_) | (refine arl_cons rfl rfl (by simp +decide only [aop, abuiltin, aeval, aintBin, bin_int, aload_bump, SS, reduceIte, reduceCtorEq]; exact rfl) (by first | rfl | with_reducible assumption) rfl ?_) | (refine arl_none rfl rfl (by simp +decide only [aop, abuiltin, aeval, aintBin, bin_int, aload_bump, SS, reduceIte, reduceCtorEq]; exact rfl) rfl rfl ?_) | (refine arl_off rfl rfl ?_))
  refine arl_call rfl rfl rfl rfl rfl rfl ((clone_ok (by repeat (first | assumption | (refine WF.bump ?_ _) | (refine WF.put ?_ (by simp only [n_bump, n_put, n_touch, n_kill] at *; omega) (by simp only [n_bump, n_put, n_touch, n_kill] at *; omega)))) (h.keep (G := fun _ => False) (by repeat (first | assumption | exact Keeps.refl _ _ | (refine Keeps.bumpR ?_ _) | (refine Keeps.put ?_ (by assumption) (by simp only [n_bump, n_put, n_touch, n_kill] at *; omega)))) (fun _ _ h => h)) hl).dead.wf (by repeat (first | assumption | (refine WF.bump ?_ _) | (refine WF.put ?_ (by simp only [n_bump, n_put, n_touch, n_kill] at *; omega) (by simp only [n_bump, n_put, n_touch, n_kill] at *; omega)))) |>.mono ?_)
  rintro c s1 ⟨hw1, hn1, hd1, hE1, hcs, hO⟩
  refine ⟨hcs, ?_⟩
  replace hE1 : Ext st s1 := Keeps.trans (by repeat (first | assumption | exact Keeps.refl _ _ | (refine Keeps.bumpR ?_ _) | (refine Keeps.put ?_ (by assumption) (by simp only [n_bump, n_put, n_touch, n_kill] at *; omega)))) hE1
  have hO1 := hO
  repeat (first | (refine aw_seq ?_) | (refine aw_reg0 (by simp only [SZ, Nat.reduceAdd]; exact rfl) ?_) | (refine aw_reg (by decide +kernel) (by simp only [SZ, Nat.reduceAdd]; exact rfl) ?_) | (refine aw_regS (by decide +kernel) (by simp only [SZ, Nat.reduceAdd]; exact rfl) ?_) | (refine arl_nil ?_) | (refine aw_skip ?_) | (refine aw_block ?_) | (refine aw_exit ?_) | (refine aw_ret ?_) | (refine arl_cons rfl rfl (by simp +decide only [aop, abuiltin, aeval, aintBin, bin_int, aload_bump, SS, reduceIte, reduceCtorEq, bldR hO1.rd, szRD]; exact rfl) (by first | rfl | with_reducible assumption) rfl ?_) | (refine arl_none rfl rfl (by simp +decide only [aop, abuiltin, aeval, aintBin, bin_int, aload_bump, SS, reduceIte, reduceCtorEq, bldR hO1.rd, szRD]; exact rfl) rfl rfl ?_) | (refine arl_off rfl rfl ?_))
  refine ⟨.inr rfl, _, rfl, (by repeat (first | assumption | exact Keeps.refl _ _ | (refine Keeps.bumpR ?_ _) | (refine Keeps.put ?_ (by assumption) (by simp only [n_bump, n_put, n_touch, n_kill] at *; omega)))), rfl, _, _, _, rfl, get_put _ _, (by simp only [n_bump, n_put, n_touch, n_kill] at *; omega), ?_⟩
  refine (hO.keep (G := fun _ => False) (Keeps.putF (Keeps.refl _ _) (hd1 _ (by simp only [n_bump]; omega) (fresh hw (by simp only [n_bump]; omega)))) (fun _ _ h => h)).mono ?_
  intro g hg
  simp only [n_bump] at *
  exact ⟨by omega, by omega⟩
theorem wlen_ok {st : St} {K : Nat → Prop} {p : AV} {ys : List Int} {m : Int} (h : BxO st K WR p ys m) :
    ACalls Try.prog 9 [p] st (fun r s => Ext st s ∧ r = i64 ys.length) := by
  obtain ⟨i, g, c, rfl, h2, h3, h4, hcs, hb0, hb1⟩ := h.un
  refine acalls_of Try.func9 rfl (by kernel_rfl) rfl ?_
  repeat (first | (refine aw_seq ?_) | (refine aw_reg0 (by simp only [SZ, Nat.reduceAdd]; exact rfl) ?_) | (refine aw_reg (by decide +kernel) (by simp only [SZ, Nat.reduceAdd]; exact rfl) ?_) | (refine aw_regS (by decide +kernel) (by simp only [SZ, Nat.reduceAdd]; exact rfl) ?_) | (refine arl_nil ?_) | (refine aw_skip ?_) | (refine aw_block ?_) | (refine aw_exit ?_) | (refine aw_ret ?_) | (refine arl_cons rfl rfl (by simp +decide only [aop, abuiltin, aeval, aintBin, bin_int, aload_bump, SS, reduceIte, reduceCtorEq, faW0, hb0, h4.rd.len]; exact rfl) (by first | rfl | with_reducible assumption) rfl ?_) | (refine arl_none rfl rfl (by simp +decide only [aop, abuiltin, aeval, aintBin, bin_int, aload_bump, SS, reduceIte, reduceCtorEq, faW0, hb0, h4.rd.len]; exact rfl) rfl rfl ?_) | (refine arl_off rfl rfl ?_))
  exact ⟨.inr rfl, _, rfl, (by repeat (first | assumption | exact Keeps.refl _ _ | (refine Keeps.bumpR ?_ _) | (refine Keeps.put ?_ (by assumption) (by simp only [n_bump, n_put, n_touch, n_kill] at *; omega)))), rfl⟩
theorem wroom_ok {st : St} {K : Nat → Prop} {p : AV} {ys : List Int} {m : Int} (h : BxO st K WR p ys m) (hm : -1000000000000000 ≤ m ∧ m ≤ 9223372036854775807) (hl : ys.length ≤ 140737488355327) :
    ACalls Try.prog 21 [p] st (fun r s => Ext st s ∧ r = i64 (m - ys.length)) := by
  obtain ⟨i, g, c, rfl, h2, h3, h4, hcs, hb0, hb1⟩ := h.un
  have hwm : IntKind.i64.wrap (m - ys.length) = m - ys.length := wrap64_of (by omega) (by omega)
  refine acalls_of Try.func21 rfl (by kernel_rfl) rfl ?_
  repeat (first | (refine aw_seq ?_) | (refine aw_reg0 (by simp only [SZ, Nat.reduceAdd]; exact rfl) ?_) | (refine aw_reg (by decide +kernel) (by simp only [SZ, Nat.reduceAdd]; exact rfl) ?_) | (refine aw_regS (by decide +kernel) (by simp only [SZ, Nat.reduceAdd]; exact rfl) ?_) | (refine arl_nil ?_) | (refine aw_skip ?_) | (refine aw_block ?_) | (refine aw_exit ?_) | (refine aw_ret ?_) | (refine arl_cons rfl rfl (by simp +decide only [aop, abuiltin, aeval, aintBin, bin_int, aload_bump, SS, reduceIte, reduceCtorEq, faW0, faW1, hb0, hb1, h4.rd.len, hwm]; exact rfl) (by first | rfl | with_reducible assumption) rfl ?_) | (refine arl_none rfl rfl (by simp +decide only [aop, abuiltin, aeval, aintBin, bin_int, aload_bump, SS, reduceIte, reduceCtorEq, faW0, faW1, hb0, hb1, h4.rd.len, hwm]; exact rfl) rfl rfl ?_) | (refine arl_off rfl rfl ?_))
  exact ⟨.inr rfl, _, rfl, (by repeat (first | assumption | exact Keeps.refl _ _ | (refine Keeps.bumpR ?_ _) | (refine Keeps.put ?_ (by assumption) (by simp only [n_bump, n_put, n_touch, n_kill] at *; omega)))), rfl⟩
theorem wbytes_ok {st : St} (hw : WF st) {K : Nat → Prop} {p : AV} {ys : List Int} {m : Int} (h : BxO st K WR p ys m) (hl : ys.length ≤ 140737488355327) :
    ACalls Try.prog 12 [p] st (fun r s => Ext st s ∧ r.solid = true ∧ OwB s (fun g => st.n ≤ g) r ys) := by
  obtain ⟨i, g, c, rfl, h2, h3, h4, hcs, hb0, hb1⟩ := h.un
  refine acalls_of Try.func12 rfl (by kernel_rfl) rfl ?_
  repeat (first | (refine aw_seq ?_) | (refine aw_reg0 (by simp only [SZ, Nat.reduceAdd]; exact rfl) ?_) | (refine aw_reg (by decide +kernel) (by simp only [SZ, Nat.reduceAdd]; exact rfl) ?_) | (refine aw_regS (by decide +kernel) (by simp only [SZ, Nat.reduceAdd]; exact rfl) ?_) | (refine arl_nil ?_) | (refine aw_skip ?_) | (refine aw_block ?_) | (refine aw_exit ?_) | (refine aw_ret ?_) | (refine arl_cons rfl rfl (by simp +decide only [aop, abuiltin, aeval, aintBin, bin_int, aload_bump, SS, reduceIte, reduceCtorEq, faW0, hb0]; exact rfl) (by first | rfl | with_reducible assumption) rfl ?_) | (refine arl_none rfl rfl (by simp +decide only [aop, abuiltin, aeval, aintBin, bin_int, aload_bump, SS, reduceIte, reduceCtorEq, faW0, hb0]; exact rfl) rfl rfl ?_) | (refine arl_off rfl rfl ?_))
  refine arl_call rfl rfl rfl rfl rfl rfl ((clone_ok (by repeat (first | assumption | (refine WF.bump ?_ _) | (refine WF.put ?_ (by simp only [n_bump, n_put, n_touch, n_kill] at *; omega) (by simp only [n_bump, n_put, n_touch, n_kill] at *; omega)))) (h4.rd.keep (G := fun _ => False) (by repeat (first | assumption | exact Keeps.refl _ _ | (refine Keeps.bumpR ?_ _) | (refine Keeps.put ?_ (by assumption) (by simp only [n_bump, n_put, n_touch, n_kill] at *; omega)))) (fun _ _ h => h)) hl).wf (by repeat (first | assumption | (refine WF.bump ?_ _) | (refine WF.put ?_ (by simp only [n_bump, n_put, n_touch, n_kill] at *; omega) (by simp only [n_bump, n_put, n_touch, n_kill] at *; omega)))) |>.mono ?_)
  rintro r s1 ⟨hw1, hn1, hE1, hcs, hO⟩
  refine ⟨hcs, ?_⟩
  replace hE1 : Ext st s1 := Keeps.trans (by repeat (first | assumption | exact Keeps.refl _ _ | (refine Keeps.bumpR ?_ _) | (refine Keeps.put ?_ (by assumption) (by simp only [n_bump, n_put, n_touch, n_kill] at *; omega)))) hE1
  repeat (first | (refine aw_seq ?_) | (refine aw_reg0 (by simp only [SZ, Nat.reduceAdd]; exact rfl) ?_) | (refine aw_reg (by decide +kernel) (by simp only [SZ, Nat.reduceAdd]; exact rfl) ?_) | (refine aw_regS (by decide +kernel) (by simp only [SZ, Nat.reduceAdd]; exact rfl) ?_) | (refine arl_nil ?_) | (refine aw_skip ?_) | (refine aw_block ?_) | (refine aw_exit ?_) | (refine aw_ret ?_) | (refine arl_cons rfl rfl (by simp +decide only [aop, abuiltin, aeval, aintBin, bin_int, aload_bump, SS, reduceIte, reduceCtorEq]; exact rfl) (by first | rfl | with_reducible assumption) rfl ?_) | (refine arl_none rfl rfl (by simp +decide only [aop, abuiltin, aeval, aintBin, bin_int, aload_bump, SS, reduceIte, reduceCtorEq]; exact rfl) rfl rfl ?_) | (refine arl_off rfl rfl ?_))
  exact ⟨.inr rfl, _, rfl, (by repeat (first | assumption | exact Keeps.refl _ _ | (refine Keeps.bumpR ?_ _) | (refine Keeps.put ?_ (by assumption) (by simp only [n_bump, n_put, n_touch, n_kill] at *; omega)))), hcs, hO.mono (fun g h => by simp only [n_bump] at h; omega)⟩
theorem rleft_ok {st : St} {K : Nat → Prop} {p : AV} {ys : List Int} {m : Int} (h : BxO st K RD p ys m) (hm : 0 ≤ m ∧ m ≤ 9223372036854775807) (hl : ys.length ≤ 140737488355327) :
    ACalls Try.prog 27 [p] st (fun r s => Ext st s ∧ r = i64 (ys.length - m)) := by
  obtain ⟨i, g, c, rfl, h2, h3, h4, hcs, hb0, hb1⟩ := h.un
  have hwm : IntKind.i64.wrap (ys.length - m) = ys.length - m := wrap64_of (by omega) (by omega)
  refine acalls_of Try.func27 rfl (by kernel_rfl) rfl ?_
  repeat (first | (refine aw_seq ?_) | (refine aw_reg0 (by simp only [SZ, Nat.reduceAdd]; exact rfl) ?_) | (refine aw_reg (by decide +kernel) (by simp only [SZ, Nat.reduceAdd]; exact rfl) ?_) | (refine aw_regS (by decide +kernel) (by simp only [SZ, Nat.reduceAdd]; exact rfl) ?_) | (refine arl_nil ?_) | (refine aw_skip ?_) | (refine aw_block ?_) | (refine aw_exit ?_) | (refine aw_ret ?_) | (refine arl_cons rfl rfl (by simp +decide only [aop, abuiltin, aeval, aintBin, bin_int, aload_bump, SS, reduceIte, reduceCtorEq, faR0, faR1, hb0, hb1, h4.rd.len, hwm]; exact rfl) (by first | rfl | with_reducible assumption) rfl ?_) | (refine arl_none rfl rfl (by simp +decide only [aop, abuiltin, aeval, aintBin, bin_int, aload_bump, SS, reduceIte, reduceCtorEq, faR0, faR1, hb0, hb1, h4.rd.len, hwm]; exact rfl) rfl rfl ?_) | (refine arl_off rfl rfl ?_))
  exact ⟨.inr rfl, _, rfl, (by repeat (first | assumption | exact Keeps.refl _ _ | (refine Keeps.bumpR ?_ _) | (refine Keeps.put ?_ (by assumption) (by simp only [n_bump, n_put, n_touch, n_kill] at *; omega)))), rfl⟩
end Go.Proofs.Ytinjlhhhahllhaa.Ra
