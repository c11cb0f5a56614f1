/- Rows of rows of bytes; cursor.Join. -/
import Derived.Test.YtinjlhhhahllhaaSi
namespace Go.Proofs.Ytinjlhhhahllhaa.Ra
open Go Go.RowKit
set_option linter.unusedVariables false
set_option linter.unusedSimpArgs false
set_option maxRecDepth 10000
theorem TB : TF Try.prog 53 23 1 24 := TF.of (by kernel_rfl) (by kernel_rfl) (by decide)
/-- A slice of slices of bytes. -/
abbrev RB (st : St) (K : Nat → Prop) (cs : List AV) (xs : List Int) : Prop := ∃ c, cs = [c] ∧ RdB st K c xs
abbrev RdR (st : St) (K K' : Nat → Prop) (v : AV) (ps : List (List Int)) : Prop := RdL st K 1 (RB st K') v ps
abbrev OwR (st : St) (K K' : Nat → Prop) (v : AV) (ps : List (List Int)) : Prop := OwL st K 23 1 (RB st K') v ps
theorem RB.keep {st st' : St} {K G : Nat → Prop} (hk : Keeps G st st') (hd : ∀ g, K g → ¬ G g) (c : List AV) (x : List Int) (h : RB st K c x) : RB st' K c x := by
  obtain ⟨c', h1, h2⟩ := h
  exact ⟨c', h1, h2.keep hk hd⟩
theorem RB.one {st : St} {K : Nat → Prop} (c : List AV) (x : List Int) (h : RB st K c x) : c.all AV.one = true := by
  obtain ⟨c', rfl, h2⟩ := h
  simp [h2.cell.2]
theorem RdR.keep {st st' : St} {K K' G : Nat → Prop} {v : AV} {ps : List (List Int)} (h : RdR st K K' v ps) (hk : Keeps G st st') (hd : ∀ g, K g → ¬ G g) (hd' : ∀ g, K' g → ¬ G g) : RdR st' K K' v ps := RdL.keep h hk hd (fun c x => RB.keep hk hd' c x)
theorem OwR.keep {st st' : St} {K K' G : Nat → Prop} {v : AV} {ps : List (List Int)} (h : OwR st K K' v ps) (hk : Keeps G st st') (hd : ∀ g, K g → ¬ G g) (hd' : ∀ g, K' g → ¬ G g) : OwR st' K K' v ps := OwL.keep h hk hd (fun c x => RB.keep hk hd' c x)
theorem RB.lt {st : St} (hw : WF st) {K : Nat → Prop} (c : List AV) (x : List Int) (h : RB st K c x) : RB st (fun g => K g ∧ g < st.n) c x := by
  obtain ⟨c', h1, h2⟩ := h
  exact ⟨c', h1, h2.lt hw⟩
theorem RdR.at {st : St} {K K' : Nat → Prop} {v : AV} {ps : List (List Int)} (h : RdR st K K' v ps) (k : IntKind) (j : Nat) (hj : j < ps.length) :
    ∃ q c, aindexAddr Try.prog 53 v (.pl (.int k j)) = some q ∧ q.solid = true ∧ aload Try.prog st 23 q = some c ∧ c.solid = true ∧ RdB st K' c ps[j] := by
  obtain ⟨i, off, o, h1, h2, h3, h4, c, h5, h6⟩ := RdL.at h TB k j hj
  exact ⟨_, c, h1, rfl, load_one uB rfl szB h2 h4 h5, h6.solid, h6⟩
theorem flat_len (ps : List (List Int)) (k : Nat) : (ps.take k).flatten.length ≤ ps.flatten.length := by
  have := congrArg List.length (congrArg List.flatten (List.take_append_drop k ps))
  rw [List.flatten_append, List.length_append] at this
  omega
theorem flat_succ (ps : List (List Int)) (k : Nat) (h : k < ps.length) : (ps.take (k + 1)).flatten = (ps.take k).flatten ++ ps[k] := by
  rw [List.take_succ_eq_append_getElem h, List.flatten_append]
  simp
theorem join_ok {st : St} (hw : WF st) {K K' : Nat → Prop} {v : AV} {ps : List (List Int)} (h : RdR st K K' v ps) (hl : ps.flatten.length ≤ 140737488355327) (hn : ps.length ≤ 140737488355327) :
    ACalls Try.prog 11 [v] st (fun r s => Ext st s ∧ r.solid = true ∧ OwB s (fun g => st.n ≤ g) r ps.flatten) := by
  have hvs := h.solid
  refine acalls_of Try.func11 rfl (by kernel_rfl) (by simp [hvs]) ?_
  repeat (first | (refine aw_seq ?_) | (refine aw_reg0 (by simp only [SZ, Nat.reduceAdd]; exact rfl) ?_) | (refine aw_reg (by decide +kernel) (by simp only [SZ, Nat.reduceAdd]; exact rfl) ?_) | (refine aw_regS (by decide +kernel) (by simp only [SZ, Nat.reduceAdd]; exact rfl) ?_) | (refine arl_nil ?_) | (refine aw_skip ?_) | (refine aw_block ?_) | (refine aw_exit ?_) | (refine aw_ret ?_) | (refine arl_cons rfl rfl (by simp +decide only [aop, abuiltin, aeval, aintBin, bin_int, aload_bump, SS, reduceIte, reduceCtorEq, lit0, h.len TB]; exact rfl) (by first | rfl | with_reducible assumption) rfl ?_) | (refine arl_none rfl rfl (by simp +decide only [aop, abuiltin, aeval, aintBin, bin_int, aload_bump, SS, reduceIte, reduceCtorEq, lit0, h.len TB]; exact rfl) rfl rfl ?_) | (refine arl_off rfl rfl ?_))
  refine aw_rounds_wf (fun n fr s => Ext st s ∧ ∃ (k : Nat), k ≤ ps.length ∧ n = ps.length - k ∧ fr 7 = v ∧ fr 8 = i64 ps.length ∧ fr 9 = i64 k ∧ OwB s (fun g => st.n ≤ g) (fr 3) (ps.take k).flatten) ?_ ps.length _ _ (by repeat (first | assumption | (refine WF.bump ?_ _) | (refine WF.put ?_ (by simp only [n_bump, n_put, n_touch, n_kill] at *; omega) (by simp only [n_bump, n_put, n_touch, n_kill] at *; omega)))) ?_
  · rintro n fr s hws ⟨hE, k, hk, rfl, f7, f8, f9, hO⟩
    have hR := RdR.keep h hE (fun _ _ h => h) (fun _ _ h => h)
    have hos := hO.solid
    have hEn := hE.n
    repeat (first | (refine aw_seq ?_) | (refine aw_reg0 (by simp only [SZ, Nat.reduceAdd]; exact rfl) ?_) | (refine aw_reg (by decide +kernel) (by simp only [SZ, Nat.reduceAdd]; exact rfl) ?_) | (refine aw_regS (by decide +kernel) (by simp only [SZ, Nat.reduceAdd]; exact rfl) ?_) | (refine arl_nil ?_) | (refine aw_skip ?_) | (refine aw_block ?_) | (refine aw_exit ?_) | (refine aw_ret ?_) | (refine arl_cons rfl rfl (by simp +decide only [aop, abuiltin, aeval, aintBin, bin_int, aload_bump, SS, reduceIte, reduceCtorEq, f8, f9]; exact rfl) (by first | rfl | with_reducible assumption) rfl ?_) | (refine arl_none rfl rfl (by simp +decide only [aop, abuiltin, aeval, aintBin, bin_int, aload_bump, SS, reduceIte, reduceCtorEq, f8, f9]; exact rfl) rfl rfl ?_) | (refine arl_off rfl rfl ?_))
    (change AW _ _ _ _ _)
    refine aw_cond (by simp +decide only [aop, abuiltin, aeval, aintBin, bin_int, aload_bump, SS, reduceIte, reduceCtorEq]; exact rfl) (fun hc => ?_) (fun hc => ?_)
    · simp only [decide_eq_true_eq] at hc
      have hk2 : k < ps.length := by omega
      obtain ⟨q, c, hp1, hp2, hp3, hp4, hp5⟩ := hR.at .i64 k hk2
      have hfl := flat_len ps (k + 1)
      rw [flat_succ _ _ hk2, List.length_append] at hfl
      repeat (first | (refine aw_seq ?_) | (refine aw_reg0 (by simp only [SZ, Nat.reduceAdd]; exact rfl) ?_) | (refine aw_reg (by decide +kernel) (by simp only [SZ, Nat.reduceAdd]; exact rfl) ?_) | (refine aw_regS (by decide +kernel) (by simp only [SZ, Nat.reduceAdd]; exact rfl) ?_) | (refine arl_nil ?_) | (refine aw_skip ?_) | (refine aw_block ?_) | (refine aw_exit ?_) | (refine aw_ret ?_) | (refine arl_cons rfl rfl (by simp +decide only [aop, abuiltin, aeval, aintBin, bin_int, aload_bump, SS, reduceIte, reduceCtorEq, f7, f9, hp1, hp3]; exact rfl) (by first | rfl | with_reducible assumption) rfl ?_) | (refine arl_none rfl rfl (by simp +decide only [aop, abuiltin, aeval, aintBin, bin_int, aload_bump, SS, reduceIte, reduceCtorEq, f7, f9, hp1, hp3]; exact rfl) rfl rfl ?_) | (refine arl_off rfl rfl ?_))
      refine arl_app (K := fun g => st.n ≤ g) (K' := K') (xs := (ps.take k).flatten) (ns := ps[k]) rfl rfl rfl (hO.keep (G := fun _ => False) (by repeat (first | assumption | exact Keeps.refl _ _ | (refine Keeps.bumpR ?_ _) | (refine Keeps.put ?_ (by assumption) (by simp only [n_bump, n_put, n_touch, n_kill] at *; omega)))) (fun _ _ h => h)) (hp5.keep (G := fun _ => False) (by repeat (first | assumption | exact Keeps.refl _ _ | (refine Keeps.bumpR ?_ _) | (refine Keeps.put ?_ (by assumption) (by simp only [n_bump, n_put, n_touch, n_kill] at *; omega)))) (fun _ _ h => h)) (by simp only [n_bump, n_put, n_touch, n_kill] at *; omega) (by omega) ?_
      intro y s2 hO2 hn2 hK2
      have hys := hO2.solid
      have hE2 : Ext st s2 := hK2 _ st hw (by repeat (first | assumption | exact Keeps.refl _ _ | (refine Keeps.bumpR ?_ _) | (refine Keeps.put ?_ (by assumption) (by simp only [n_bump, n_put, n_touch, n_kill] at *; omega)))) (by simp only [n_bump, n_put, n_touch, n_kill] at *; omega) (fun g hg => .inr hg)
      have hwk : IntKind.i64.wrap ((k : Int) + 1) = ((k + 1 : Nat) : Int) := by rw [wrap64_of (by omega) (by omega)]; omega
      repeat (first | (refine aw_seq ?_) | (refine aw_reg0 (by simp only [SZ, Nat.reduceAdd]; exact rfl) ?_) | (refine aw_reg (by decide +kernel) (by simp only [SZ, Nat.reduceAdd]; exact rfl) ?_) | (refine aw_regS (by decide +kernel) (by simp only [SZ, Nat.reduceAdd]; exact rfl) ?_) | (refine arl_nil ?_) | (refine aw_skip ?_) | (refine aw_block ?_) | (refine aw_exit ?_) | (refine aw_ret ?_) | (refine arl_cons rfl rfl (by simp +decide only [aop, abuiltin, aeval, aintBin, bin_int, aload_bump, SS, reduceIte, reduceCtorEq, f9, hwk]; exact rfl) (by first | rfl | with_reducible assumption) rfl ?_) | (refine arl_none rfl rfl (by simp +decide only [aop, abuiltin, aeval, aintBin, bin_int, aload_bump, SS, reduceIte, reduceCtorEq, f9, hwk]; exact rfl) rfl rfl ?_) | (refine arl_off rfl rfl ?_))
      refine ⟨ps.length - (k + 1), by omega, (by repeat (first | assumption | exact Keeps.refl _ _ | (refine Keeps.bumpR ?_ _) | (refine Keeps.put ?_ (by assumption) (by simp only [n_bump, n_put, n_touch, n_kill] at *; omega)))), k + 1, by omega, rfl, f7, f8, rfl, ?_⟩
      rw [flat_succ _ _ hk2]
      exact hO2.bump _
    · simp only [decide_eq_false_iff_not] at hc
      repeat (first | (refine aw_seq ?_) | (refine aw_reg0 (by simp only [SZ, Nat.reduceAdd]; exact rfl) ?_) | (refine aw_reg (by decide +kernel) (by simp only [SZ, Nat.reduceAdd]; exact rfl) ?_) | (refine aw_regS (by decide +kernel) (by simp only [SZ, Nat.reduceAdd]; exact rfl) ?_) | (refine arl_nil ?_) | (refine aw_skip ?_) | (refine aw_block ?_) | (refine aw_exit ?_) | (refine aw_ret ?_) | (refine arl_cons rfl rfl (by simp +decide only [aop, abuiltin, aeval, aintBin, bin_int, aload_bump, SS, reduceIte, reduceCtorEq]; exact rfl) (by first | rfl | with_reducible assumption) rfl ?_) | (refine arl_none rfl rfl (by simp +decide only [aop, abuiltin, aeval, aintBin, bin_int, aload_bump, SS, reduceIte, reduceCtorEq]; exact rfl) rfl rfl ?_) | (refine arl_off rfl rfl ?_))
      obtain rfl : k = ps.length := by omega
      rw [List.take_length] at hO
      refine ⟨.inr rfl, _, rfl, (by repeat (first | assumption | exact Keeps.refl _ _ | (refine Keeps.bumpR ?_ _) | (refine Keeps.put ?_ (by assumption) (by simp only [n_bump, n_put, n_touch, n_kill] at *; omega)))), hos, hO⟩
  · exact ⟨(by repeat (first | assumption | exact Keeps.refl _ _ | (refine Keeps.bumpR ?_ _) | (refine Keeps.put ?_ (by assumption) (by simp only [n_bump, n_put, n_touch, n_kill] at *; omega)))), 0, by omega, rfl, rfl, rfl, rfl, .inr ⟨_, _, rfl, get_put _ _, (by simp only [n_bump, n_put, n_touch, n_kill] at *; omega)⟩⟩
end Go.Proofs.Ytinjlhhhahllhaa.Ra
