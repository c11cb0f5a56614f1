/- The small helpers, further: Spoil, Turned, Piece, Clone. -/
import Derived.Test.YtlindddionbpkaaSb
namespace Go.Proofs.Ytlindddionbpkaa.Ra
open Go Go.RowKit
set_option linter.unusedVariables false
set_option linter.unusedSimpArgs false
set_option maxRecDepth 10000
/-- A byte turned. -/
def turn (x : Int) : Int := bits .xor .u8 x 90
/-- All objects stay as long as they are, and behind L as they are. -/
def Tail (L : Nat) (st st' : St) : Prop := ∀ i o, st.get i = some o → ∃ o', st'.get i = some o' ∧ o'.cells.length = o.cells.length ∧ o'.grp = o.grp ∧ ∀ q, L ≤ q → o'.cells[q]? = o.cells[q]?
theorem Tail.refl (L : Nat) (st : St) : Tail L st st := fun i o h => ⟨o, h, rfl, rfl, fun _ _ => rfl⟩
theorem Tail.trans {L : Nat} {a b c : St} (h : Tail L a b) (k : Tail L b c) : Tail L a c := fun i o ho => by
  obtain ⟨o1, h1, h2, h3, h4⟩ := h i o ho
  obtain ⟨o2, k1, k2, k3, k4⟩ := k i o1 h1
  exact ⟨o2, k1, by omega, by omega, fun q hq => (k4 q hq).trans (h4 q hq)⟩
theorem topR_get {xs : List AV} {off n q : Nat} (h : off + n ≤ q) : (topR xs off n)[q]? = xs[q]? := by
  by_cases h1 : q < xs.length
  · unfold _root_.Go.Proofs.Ytlindddionbpkaa.Ra.topR
    rw [List.append_assoc, List.getElem?_append_right (by rw [List.length_take]; omega), List.getElem?_append_right (by rw [List.length_take, List.length_replicate]; omega), List.getElem?_drop]
    congr 1
    simp only [List.length_take, List.length_replicate]
    omega
  · rw [List.getElem?_eq_none (by rw [topR_len]; omega), List.getElem?_eq_none (by omega)]
theorem Tail.store {L : Nat} {st0 st : St} (h : Tail L st0 st) {i k n : Nat} {o : AObj} (ho : st.get i = some o) (hk : k + n ≤ L) {cs : List AV} (hl : cs.length = o.cells.length) (hq : ∀ q, L ≤ q → cs[q]? = o.cells[q]?) : Tail L st0 ((st.touch o.grp k n).put i { o with cells := cs }) := h.trans fun j oj hj => by
  by_cases he : j = i
  · subst he
    rw [ho] at hj
    cases hj
    exact ⟨_, get_put _ _, hl, rfl, hq⟩
  · rw [get_put_ne _ he]
    simp only [St.touch, hj, Option.map_some]
    split
    · exact ⟨_, rfl, topR_len _ _ _, rfl, fun q hq => topR_get (by omega)⟩
    · exact ⟨_, rfl, rfl, rfl, fun _ _ => rfl⟩
theorem spoil_ok {st : St} (hw : WF st) {K : Nat → Prop} {v : AV} {xs : List Int} (h : OwB st K v xs) (hl : xs.length ≤ 140737488355327) :
    ACalls Try.prog 18 [v] st (fun r s => Keeps K st s ∧ r.solid = true ∧ OwB s K v (xs.map turn) ∧ Tail xs.length st s) := by
  have hvs := h.solid
  refine acalls_of Try.func18 rfl (by kernel_rfl) (by simp [hvs]) ?_
  repeat (first | (refine aw_seq ?_) | (refine aw_reg0 (by simp only [SZ, Nat.reduceAdd]; exact rfl) ?_) | (refine aw_reg (by decide +kernel) (by simp only [SZ, Nat.reduceAdd]; exact rfl) ?_) | (refine aw_regS (by decide +kernel) (by simp only [SZ, Nat.reduceAdd]; exact rfl) ?_) | (refine arl_nil ?_) | (refine aw_skip ?_) | (refine aw_block ?_) | (refine aw_exit ?_) | (refine aw_ret ?_) | (refine arl_cons rfl rfl (by simp +decide only [aop, abuiltin, aeval, aintBin, bin_int, aload_bump, SS, reduceIte, reduceCtorEq]; exact rfl) (by first | rfl | with_reducible assumption) rfl ?_) | (refine arl_none rfl rfl (by simp +decide only [aop, abuiltin, aeval, aintBin, bin_int, aload_bump, SS, reduceIte, reduceCtorEq]; exact rfl) rfl rfl ?_) | (refine arl_off rfl rfl ?_))
  refine aw_rounds_wf (fun n fr s => Keeps K st s ∧ Tail xs.length st s ∧ ∃ (k : Nat), k ≤ xs.length ∧ n = xs.length - k ∧ fr 0 = v ∧ fr 2 = i64 k ∧ OwB s K v ((xs.take k).map turn ++ xs.drop k)) ?_ xs.length _ _ (by repeat (first | assumption | (refine WF.bump ?_ _) | (refine WF.put ?_ (by simp only [n_bump, n_put, n_touch, n_kill] at *; omega) (by simp only [n_bump, n_put, n_touch, n_kill] at *; omega)))) ?_
  · rintro n fr s hws ⟨hE, hT, k, hk, rfl, f0, f2, hO⟩
    have hEn := hE.n
    have hlen : ((xs.take k).map turn ++ xs.drop k).length = xs.length := by simp; omega
    have hR := hO.rd
    have hln := hR.len
    rw [hlen] at hln
    repeat (first | (refine aw_seq ?_) | (refine aw_reg0 (by simp only [SZ, Nat.reduceAdd]; exact rfl) ?_) | (refine aw_reg (by decide +kernel) (by simp only [SZ, Nat.reduceAdd]; exact rfl) ?_) | (refine aw_regS (by decide +kernel) (by simp only [SZ, Nat.reduceAdd]; exact rfl) ?_) | (refine arl_nil ?_) | (refine aw_skip ?_) | (refine aw_block ?_) | (refine aw_exit ?_) | (refine aw_ret ?_) | (refine arl_cons rfl rfl (by simp +decide only [aop, abuiltin, aeval, aintBin, bin_int, aload_bump, SS, reduceIte, reduceCtorEq, f0, f2, hln]; exact rfl) (by first | rfl | with_reducible assumption) rfl ?_) | (refine arl_none rfl rfl (by simp +decide only [aop, abuiltin, aeval, aintBin, bin_int, aload_bump, SS, reduceIte, reduceCtorEq, f0, f2, hln]; exact rfl) rfl rfl ?_) | (refine arl_off rfl rfl ?_))
    (change AW _ _ _ _ _)
    refine aw_cond (by simp +decide only [aop, abuiltin, aeval, aintBin, bin_int, aload_bump, SS, reduceIte, reduceCtorEq]; exact rfl) (fun hc => ?_) (fun hc => ?_)
    · simp only [decide_eq_true_eq] at hc
      have hk2 : k < xs.length := by omega
      have hget : ((xs.take k).map turn ++ xs.drop k)[k]'(by omega) = xs[k] := by
        rw [List.getElem_append_right (by simp; omega)]
        simp [Nat.min_eq_left (Nat.le_of_lt hk2)]
      rcases hO with ⟨h1, h2⟩ | ⟨i, g, h1, h2, h3⟩
      · have := congrArg List.length h1
        simp at this
        omega
      · have hia : aindexAddr Try.prog 27 v (i64 k) = some (.ptr i k) := by
          rw [h1, hlen, idx_sl uB sz5 i 0 xs.length 1 .i64 k (by omega) (by omega)]
          simp
        have hld : aload Try.prog s 5 (.ptr i k) = some (u8 xs[k]) := load_at u5 rfl sz5 h2 (by
          rw [List.getElem?_map, List.getElem?_eq_getElem (by omega), hget]
          rfl)
        have hset : ((xs.take k).map turn ++ xs.drop k).set k (turn xs[k]) = (xs.take (k + 1)).map turn ++ xs.drop (k + 1) := by
          rw [List.set_append_right _ _ (by simp; omega), List.take_succ_eq_append_getElem hk2, List.drop_eq_getElem_cons hk2, List.map_append, List.append_assoc]
          congr 1
          simp only [List.length_map, List.length_take, Nat.min_eq_left (Nat.le_of_lt hk2), Nat.sub_self, List.set_cons_zero, List.map_cons, List.map_nil, List.cons_append, List.nil_append]
        have hxor : bits .xor .u8 xs[k] 90 = turn xs[k] := rfl
        repeat (first | (refine aw_seq ?_) | (refine aw_reg0 (by simp only [SZ, Nat.reduceAdd]; exact rfl) ?_) | (refine aw_reg (by decide +kernel) (by simp only [SZ, Nat.reduceAdd]; exact rfl) ?_) | (refine aw_regS (by decide +kernel) (by simp only [SZ, Nat.reduceAdd]; exact rfl) ?_) | (refine arl_nil ?_) | (refine aw_skip ?_) | (refine aw_block ?_) | (refine aw_exit ?_) | (refine aw_ret ?_) | (refine arl_cons rfl rfl (by simp +decide only [aop, abuiltin, aeval, aintBin, bin_int, aload_bump, SS, reduceIte, reduceCtorEq, f0, f2, hia, hld, hxor]; exact rfl) (by first | rfl | with_reducible assumption) rfl ?_) | (refine arl_none rfl rfl (by simp +decide only [aop, abuiltin, aeval, aintBin, bin_int, aload_bump, SS, reduceIte, reduceCtorEq, f0, f2, hia, hld, hxor]; exact rfl) rfl rfl ?_) | (refine arl_off rfl rfl ?_))
        refine arl_store (y := turn xs[k]) rfl rfl rfl (by simp only [aeval, aput_at]; rfl) (by simp only [aeval, aput_at]; rfl) h2 (by omega) ?_
        rw [hset]
        repeat (first | (refine aw_seq ?_) | (refine aw_reg0 (by simp only [SZ, Nat.reduceAdd]; exact rfl) ?_) | (refine aw_reg (by decide +kernel) (by simp only [SZ, Nat.reduceAdd]; exact rfl) ?_) | (refine aw_regS (by decide +kernel) (by simp only [SZ, Nat.reduceAdd]; exact rfl) ?_) | (refine arl_nil ?_) | (refine aw_skip ?_) | (refine aw_block ?_) | (refine aw_exit ?_) | (refine aw_ret ?_) | (refine arl_cons rfl rfl (by simp +decide only [aop, abuiltin, aeval, aintBin, bin_int, aload_bump, SS, reduceIte, reduceCtorEq, f0, f2]; exact rfl) (by first | rfl | with_reducible assumption) rfl ?_) | (refine arl_none rfl rfl (by simp +decide only [aop, abuiltin, aeval, aintBin, bin_int, aload_bump, SS, reduceIte, reduceCtorEq, f0, f2]; exact rfl) rfl rfl ?_) | (refine arl_off rfl rfl ?_))
        have hwk : IntKind.i64.wrap ((k : Int) + 1) = ((k + 1 : Nat) : Int) := by rw [wrap64_of (by omega) (by omega)]; omega
        refine ⟨xs.length - (k + 1), by omega, ?_, ?_, k + 1, by omega, rfl, f0, ?_, ?_⟩
        · exact (Keeps.write (G := K) (st := st) (s := (s.bump 4).bump 9) (by exact (hE.bumpR _).bumpR _) hw h2 (.inl h3) k 1).bumpR _
        · refine Tail.store (o := ⟨_, 5, true, g⟩) hT h2 (by omega) ?_ ?_
          · simp; omega
          · intro q hq
            rw [List.getElem?_eq_none (by simp; omega), List.getElem?_eq_none (by simp; omega)]
        · rw [← hwk]; rfl
        · exact .inr ⟨i, g, by rw [h1, hlen]; simp; omega, get_put _ _, h3⟩
    · simp only [decide_eq_false_iff_not] at hc
      repeat (first | (refine aw_seq ?_) | (refine aw_reg0 (by simp only [SZ, Nat.reduceAdd]; exact rfl) ?_) | (refine aw_reg (by decide +kernel) (by simp only [SZ, Nat.reduceAdd]; exact rfl) ?_) | (refine aw_regS (by decide +kernel) (by simp only [SZ, Nat.reduceAdd]; exact rfl) ?_) | (refine arl_nil ?_) | (refine aw_skip ?_) | (refine aw_block ?_) | (refine aw_exit ?_) | (refine aw_ret ?_) | (refine arl_cons rfl rfl (by simp +decide only [aop, abuiltin, aeval, aintBin, bin_int, aload_bump, SS, reduceIte, reduceCtorEq, f0, f2]; exact rfl) (by first | rfl | with_reducible assumption) rfl ?_) | (refine arl_none rfl rfl (by simp +decide only [aop, abuiltin, aeval, aintBin, bin_int, aload_bump, SS, reduceIte, reduceCtorEq, f0, f2]; exact rfl) rfl rfl ?_) | (refine arl_off rfl rfl ?_))
      obtain rfl : k = xs.length := by omega
      rw [List.take_length, List.drop_length, List.append_nil] at hO
      exact ⟨.inl rfl, _, rfl, (by repeat (first | assumption | exact Keeps.refl _ _ | (refine Keeps.bumpR ?_ _) | (refine Keeps.put ?_ (by assumption) (by simp only [n_bump, n_put, n_touch, n_kill] at *; omega)))), rfl, hO.bump _, hT⟩
  · exact ⟨(by repeat (first | assumption | exact Keeps.refl _ _ | (refine Keeps.bumpR ?_ _) | (refine Keeps.put ?_ (by assumption) (by simp only [n_bump, n_put, n_touch, n_kill] at *; omega)))), Tail.refl _ _, 0, by omega, rfl, rfl, rfl, by simpa using h.bump 1⟩
theorem turned_ok {st : St} (hw : WF st) {K K' : Nat → Prop} {v u : AV} {xs : List Int} (h : RdB st K v (xs.map turn)) (h' : RdB st K' u xs) (hl : xs.length ≤ 140737488355327) :
    ACalls Try.prog 23 [v, u] st (fun r s => Ext st s ∧ r = .pl (.bool true)) := by
  have hvs := h.solid
  have hus := h'.solid
  have hln := h.len
  rw [List.length_map] at hln
  refine acalls_of Try.func23 rfl (by kernel_rfl) (by simp [hvs, hus]) ?_
  repeat (first | (refine aw_seq ?_) | (refine aw_reg0 (by simp only [SZ, Nat.reduceAdd]; exact rfl) ?_) | (refine aw_reg (by decide +kernel) (by simp only [SZ, Nat.reduceAdd]; exact rfl) ?_) | (refine aw_regS (by decide +kernel) (by simp only [SZ, Nat.reduceAdd]; exact rfl) ?_) | (refine arl_nil ?_) | (refine aw_skip ?_) | (refine aw_block ?_) | (refine aw_exit ?_) | (refine aw_ret ?_) | (refine arl_cons rfl rfl (by simp +decide only [aop, abuiltin, aeval, aintBin, bin_int, aload_bump, SS, reduceIte, reduceCtorEq, hln, h'.len]; exact rfl) (by first | rfl | with_reducible assumption) rfl ?_) | (refine arl_none rfl rfl (by simp +decide only [aop, abuiltin, aeval, aintBin, bin_int, aload_bump, SS, reduceIte, reduceCtorEq, hln, h'.len]; exact rfl) rfl rfl ?_) | (refine arl_off rfl rfl ?_))
  (change AW _ _ _ _ _)
  refine aw_cond (by simp +decide only [aop, abuiltin, aeval, aintBin, bin_int, aload_bump, SS, reduceIte, reduceCtorEq]; exact rfl) (fun hc => ?_) (fun hc => ?_)
  · simp at hc
  · repeat (first | (refine aw_seq ?_) | (refine aw_reg0 (by simp only [SZ, Nat.reduceAdd]; exact rfl) ?_) | (refine aw_reg (by decide +kernel) (by simp only [SZ, Nat.reduceAdd]; exact rfl) ?_) | (refine aw_regS (by decide +kernel) (by simp only [SZ, Nat.reduceAdd]; exact rfl) ?_) | (refine arl_nil ?_) | (refine aw_skip ?_) | (refine aw_block ?_) | (refine aw_exit ?_) | (refine aw_ret ?_) | (refine arl_cons rfl rfl (by simp +decide only [aop, abuiltin, aeval, aintBin, bin_int, aload_bump, SS, reduceIte, reduceCtorEq]; exact rfl) (by first | rfl | with_reducible assumption) rfl ?_) | (refine arl_none rfl rfl (by simp +decide only [aop, abuiltin, aeval, aintBin, bin_int, aload_bump, SS, reduceIte, reduceCtorEq]; exact rfl) rfl rfl ?_) | (refine arl_off rfl rfl ?_))
    refine aw_rounds_wf (fun n fr s => Ext st s ∧ ∃ (k : Nat), k ≤ xs.length ∧ n = xs.length - k ∧ fr 0 = v ∧ fr 1 = u ∧ fr 5 = i64 k) ?_ xs.length _ _ (by repeat (first | assumption | (refine WF.bump ?_ _) | (refine WF.put ?_ (by simp only [n_bump, n_put, n_touch, n_kill] at *; omega) (by simp only [n_bump, n_put, n_touch, n_kill] at *; omega)))) ?_
    · rintro n fr s hws ⟨hE, k, hk, rfl, f0, f1, f5⟩
      have hR := h.keep hE (fun _ _ h => h)
      have hR' := h'.keep hE (fun _ _ h => h)
      have hEn := hE.n
      repeat (first | (refine aw_seq ?_) | (refine aw_reg0 (by simp only [SZ, Nat.reduceAdd]; exact rfl) ?_) | (refine aw_reg (by decide +kernel) (by simp only [SZ, Nat.reduceAdd]; exact rfl) ?_) | (refine aw_regS (by decide +kernel) (by simp only [SZ, Nat.reduceAdd]; exact rfl) ?_) | (refine arl_nil ?_) | (refine aw_skip ?_) | (refine aw_block ?_) | (refine aw_exit ?_) | (refine aw_ret ?_) | (refine arl_cons rfl rfl (by simp +decide only [aop, abuiltin, aeval, aintBin, bin_int, aload_bump, SS, reduceIte, reduceCtorEq, f0, f1, f5, hln]; exact rfl) (by first | rfl | with_reducible assumption) rfl ?_) | (refine arl_none rfl rfl (by simp +decide only [aop, abuiltin, aeval, aintBin, bin_int, aload_bump, SS, reduceIte, reduceCtorEq, f0, f1, f5, hln]; exact rfl) rfl rfl ?_) | (refine arl_off rfl rfl ?_))
      (change AW _ _ _ _ _)
      refine aw_cond (by simp +decide only [aop, abuiltin, aeval, aintBin, bin_int, aload_bump, SS, reduceIte, reduceCtorEq]; exact rfl) (fun hc2 => ?_) (fun hc2 => ?_)
      · simp only [decide_eq_true_eq] at hc2
        have hk2 : k < xs.length := by omega
        obtain ⟨p, hp1, hp2, hp3⟩ := hR.atN .i64 k (by simpa using hk2)
        obtain ⟨p', hp1', hp2', hp3'⟩ := hR'.atN .i64 k (by omega)
        have hxor : bits .xor .u8 xs[k] 90 = turn xs[k] := rfl
        rw [List.getElem_map] at hp3
        repeat (first | (refine aw_seq ?_) | (refine aw_reg0 (by simp only [SZ, Nat.reduceAdd]; exact rfl) ?_) | (refine aw_reg (by decide +kernel) (by simp only [SZ, Nat.reduceAdd]; exact rfl) ?_) | (refine aw_regS (by decide +kernel) (by simp only [SZ, Nat.reduceAdd]; exact rfl) ?_) | (refine arl_nil ?_) | (refine aw_skip ?_) | (refine aw_block ?_) | (refine aw_exit ?_) | (refine aw_ret ?_) | (refine arl_cons rfl rfl (by simp +decide only [aop, abuiltin, aeval, aintBin, bin_int, aload_bump, SS, reduceIte, reduceCtorEq, f0, f1, f5, hp1, hp3, hp1', hp3', hxor]; exact rfl) (by first | rfl | with_reducible assumption) rfl ?_) | (refine arl_none rfl rfl (by simp +decide only [aop, abuiltin, aeval, aintBin, bin_int, aload_bump, SS, reduceIte, reduceCtorEq, f0, f1, f5, hp1, hp3, hp1', hp3', hxor]; exact rfl) rfl rfl ?_) | (refine arl_off rfl rfl ?_))
        (change AW _ _ _ _ _)
        refine aw_cond (by simp +decide only [aop, abuiltin, aeval, aintBin, bin_int, aload_bump, SS, reduceIte, reduceCtorEq]; exact rfl) (fun hc3 => ?_) (fun hc3 => ?_)
        · simp at hc3
        · repeat (first | (refine aw_seq ?_) | (refine aw_reg0 (by simp only [SZ, Nat.reduceAdd]; exact rfl) ?_) | (refine aw_reg (by decide +kernel) (by simp only [SZ, Nat.reduceAdd]; exact rfl) ?_) | (refine aw_regS (by decide +kernel) (by simp only [SZ, Nat.reduceAdd]; exact rfl) ?_) | (refine arl_nil ?_) | (refine aw_skip ?_) | (refine aw_block ?_) | (refine aw_exit ?_) | (refine aw_ret ?_) | (refine arl_cons rfl rfl (by simp +decide only [aop, abuiltin, aeval, aintBin, bin_int, aload_bump, SS, reduceIte, reduceCtorEq, f0, f1, f5]; exact rfl) (by first | rfl | with_reducible assumption) rfl ?_) | (refine arl_none rfl rfl (by simp +decide only [aop, abuiltin, aeval, aintBin, bin_int, aload_bump, SS, reduceIte, reduceCtorEq, f0, f1, f5]; exact rfl) rfl rfl ?_) | (refine arl_off rfl rfl ?_))
          have hwk : IntKind.i64.wrap ((k : Int) + 1) = ((k + 1 : Nat) : Int) := by rw [wrap64_of (by omega) (by omega)]; omega
          refine ⟨xs.length - (k + 1), by omega, (by repeat (first | assumption | exact Keeps.refl _ _ | (refine Keeps.bumpR ?_ _) | (refine Keeps.put ?_ (by assumption) (by simp only [n_bump, n_put, n_touch, n_kill] at *; omega)))), k + 1, by omega, rfl, f0, f1, ?_⟩
          rw [← hwk]; rfl
      · simp only [decide_eq_false_iff_not] at hc2
        repeat (first | (refine aw_seq ?_) | (refine aw_reg0 (by simp only [SZ, Nat.reduceAdd]; exact rfl) ?_) | (refine aw_reg (by decide +kernel) (by simp only [SZ, Nat.reduceAdd]; exact rfl) ?_) | (refine aw_regS (by decide +kernel) (by simp only [SZ, Nat.reduceAdd]; exact rfl) ?_) | (refine arl_nil ?_) | (refine aw_skip ?_) | (refine aw_block ?_) | (refine aw_exit ?_) | (refine aw_ret ?_) | (refine arl_cons rfl rfl (by simp +decide only [aop, abuiltin, aeval, aintBin, bin_int, aload_bump, SS, reduceIte, reduceCtorEq, f0, f1, f5]; exact rfl) (by first | rfl | with_reducible assumption) rfl ?_) | (refine arl_none rfl rfl (by simp +decide only [aop, abuiltin, aeval, aintBin, bin_int, aload_bump, SS, reduceIte, reduceCtorEq, f0, f1, f5]; exact rfl) rfl rfl ?_) | (refine arl_off rfl rfl ?_))
        exact ⟨.inr rfl, _, rfl, (by repeat (first | assumption | exact Keeps.refl _ _ | (refine Keeps.bumpR ?_ _) | (refine Keeps.put ?_ (by assumption) (by simp only [n_bump, n_put, n_touch, n_kill] at *; omega)))), rfl⟩
    · exact ⟨(by repeat (first | assumption | exact Keeps.refl _ _ | (refine Keeps.bumpR ?_ _) | (refine Keeps.put ?_ (by assumption) (by simp only [n_bump, n_put, n_touch, n_kill] at *; omega)))), 0, by omega, rfl, rfl, rfl, rfl⟩
theorem same_self {st : St} (hw : WF st) {K K' : Nat → Prop} {v u : AV} {xs : List Int} (h : RdB st K v xs) (h' : RdB st K' u xs) (hl : xs.length ≤ 140737488355327) :
    ACalls Try.prog 14 [v, u] st (fun r s => Ext st s ∧ r = .pl (.bool true)) :=
  (same_ok hw h h' hl).mono fun r s hr => ⟨hr.1, by rw [hr.2]; simp⟩
theorem RdB.lt {st : St} (hw : WF st) {K : Nat → Prop} {v : AV} {xs : List Int} (h : RdB st K v xs) : RdB st (fun g => K g ∧ g < st.n) v xs := by
  rcases h with h | ⟨i, off, es, o, h1, h2, h3, h4⟩
  · exact .inl h
  · exact .inr ⟨i, off, es, o, h1, h2, ⟨h3, (hw i o h2).2⟩, h4⟩
theorem OwB.lt {st : St} (hw : WF st) {K : Nat → Prop} {v : AV} {xs : List Int} (h : OwB st K v xs) : OwB st (fun g => K g ∧ g < st.n) v xs := by
  rcases h with h | ⟨i, g, h1, h2, h3⟩
  · exact .inl h
  · exact .inr ⟨i, g, h1, h2, h3, (hw i _ h2).2⟩
end Go.Proofs.Ytlindddionbpkaa.Ra
