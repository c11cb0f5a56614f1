/- The names by names: Dir, UnDir, File, UnFile told; leatref04.Topic, path. -/
import Derived.Test.YtjpgpkkbmoehdaaDoorLe
import Derived.Test.YtjpgpkkbmoehdaaDoorSr
import Derived.Test.YtjpgpkkbmoehdaaDoorLa
namespace Go.Proofs.YtjpgpkkbmoehdaaDoor.Ra
open Go Go.RowKit Go.Proofs.YtjpgpkkbmoehdaaDoor.Ra.Nm
set_option linter.unusedVariables false
set_option linter.unusedSimpArgs false
set_option maxRecDepth 10000
abbrev str (s : ByteArray) : AV := .pl (.string s)
abbrev i32 (x : Int) : AV := .pl (.int .i32 x)
/-- Bytes as a string. -/
abbrev bs (l : List UInt8) : ByteArray := ⟨l.toArray⟩
theorem bs_size (l : List UInt8) : (bs l).size = l.length := mk_size l
theorem bs_toList (l : List UInt8) : (bs l).toList = l := by rw [Lib.toList_data]
theorem bs_of (s : ByteArray) : bs s.data.toList = s := str_ext (by simp)
theorem bs_add (a b : List UInt8) : bs a ++ bs b = bs (a ++ b) := str_ext (by rw [str_app])
theorem bs_inj {a b : List UInt8} (h : bs a = bs b) : a = b := by
  have := congrArg (fun s : ByteArray => s.data.toList) h
  simpa using this
theorem bs_cut (l : List UInt8) (a b : Nat) : (bs l).extract a b = bs ((l.drop a).take (b - a)) := str_ext (by rw [Lib.extract_data])
section
variable {st : St}
theorem dirA (s : ByteArray) (h : OkT s.data.toList) (p : Nat) (hp : p < 2147483648) : ACalls Tryd.prog 4 [str s, i32 p] st (fun r s' => Ext st s' ∧ r = .tup [str (bs (dirL s.data.toList p)), i64 0]) := by
  refine acalls_orac rfl ⟨0, _, _, ?_, Keeps.refl _ _, rfl⟩
  unfold orac pureF
  simp only
  rw [if_pos ⟨by first | rfl | trivial, h, by omega, by omega⟩, Int.toNat_natCast]
  rfl
theorem fileA (b : Nat) (hb : b ≤ 4611686018427387904) : ACalls Tryd.prog 5 [i64 b] st (fun r s' => Ext st s' ∧ r = .tup [str (bs (fileL b)), i64 0]) := by
  refine acalls_orac rfl ⟨0, _, _, ?_, Keeps.refl _ _, rfl⟩
  unfold orac pureF
  simp only
  rw [if_pos ⟨by first | rfl | trivial, by omega, by omega⟩, Int.toNat_natCast]
  rfl
theorem undirA (t : ByteArray) (h : OkT t.data.toList) (p : Nat) (hp : p < 2147483648) : ACalls Tryd.prog 9 [str (bs (dirL t.data.toList p))] st (fun r s' => Ext st s' ∧ r = .tup [str t, i32 p, i64 0]) := by
  have hex : ∃ t' p', IsDir (bs (dirL t.data.toList p)) t' p' := ⟨t, p, h, hp, rfl⟩
  refine acalls_orac rfl ⟨0, .tup [.pl (.string hex.choose), .pl (.int .i32 hex.choose_spec.choose), .pl (.int .i64 0)], st, ?_, Keeps.refl _ _, ?_⟩
  · unfold orac pureF
    simp only
    rw [if_pos trivial, dif_pos hex]
    rfl
  · have h3 := hex.choose_spec.choose_spec.2.2
    obtain ⟨e1, e2⟩ := dir_inj (bs_inj h3)
    have e := congr (congrArg (fun (x : ByteArray) (y : Nat) => AV.tup [str x, i32 y, i64 0]) (str_ext e1).symm) e2.symm
    exact e
theorem unfileA (b : Nat) (hb : b ≤ 4611686018427387904) : ACalls Tryd.prog 10 [str (bs (fileL b))] st (fun r s' => Ext st s' ∧ r = .tup [i64 b, i64 0]) := by
  have hex : ∃ b', IsFile (bs (fileL b)) b' := ⟨b, hb, rfl⟩
  refine acalls_orac rfl ⟨0, .tup [.pl (.int .i64 hex.choose), .pl (.int .i64 0)], st, ?_, Keeps.refl _ _, ?_⟩
  · unfold orac pureF
    simp only
    rw [if_neg (by decide), if_pos trivial, dif_pos hex]
    rfl
  · have h3 := hex.choose_spec.2
    rw [← file_inj (bs_inj h3)]
end
set_option maxHeartbeats 4000000 in
theorem rletter_ok {st : St} (hw : WF st) (c : UInt8) : ACalls Tryd.prog 17 [u8 c.toNat] st (fun r s' => Ext st s' ∧ ∃ b : Bool, r = .pl (.bool b) ∧ (b = true ↔ okB c)) := by
  unfold okB
  generalize c.toNat = n
  refine acalls_of Tryd.func17 rfl (by kernel_rfl) rfl ?_
  have hr : (97 ≤ n ∧ n ≤ 122) ∨ 123 ≤ n ∨ (65 ≤ n ∧ n ≤ 90) ∨ (95 ≤ n ∧ n ≤ 95) ∨ (91 ≤ n ∧ n ≤ 94) ∨ (96 ≤ n ∧ n ≤ 96) ∨ (48 ≤ n ∧ n ≤ 57) ∨ (58 ≤ n ∧ n ≤ 64) ∨ (46 ≤ n ∧ n ≤ 46) ∨ (45 ≤ n ∧ n ≤ 45) ∨ (47 ≤ n ∧ n ≤ 47) ∨ (0 ≤ n ∧ n ≤ 44) := by omega
  rcases hr with h | h | h | h | h | h | h | h | h | h | h | h
  · have d1 : decide ((n : Int) ≥ 97) = true := decide_eq_true (by omega)
    have d2 : decide ((n : Int) ≤ 122) = true := decide_eq_true (by omega)
    have d3 : decide ((n : Int) ≥ 65) = true := decide_eq_true (by omega)
    have d4 : decide ((n : Int) ≤ 90) = false := decide_eq_false (by omega)
    have d5 : decide ((n : Int) ≥ 48) = true := decide_eq_true (by omega)
    have d6 : decide ((n : Int) ≤ 57) = false := decide_eq_false (by omega)
    have d7 : ((n : Int) == 46) = false := by simp; omega
    have d8 : ((n : Int) == 95) = false := by simp; omega
    have d9 : ((n : Int) == 45) = false := by simp; omega
    repeat (first | (refine aw_seq ?_) | (refine aw_reg0 (by simp only [SZ, Nat.reduceAdd]; exact rfl) ?_) | (refine aw_reg (by decide +kernel) (by simp only [SZ, Nat.reduceAdd]; exact rfl) ?_) | (refine aw_regS (by decide +kernel) (by simp only [SZ, Nat.reduceAdd]; exact rfl) ?_) | (refine aw_regN (by decide +kernel) (by simp only [SZ, Nat.reduceAdd]; exact rfl) (by repeat (first | assumption | (refine WF.bump ?_ _))) ?_) | (refine arl_nil ?_) | (refine aw_skip ?_) | (refine aw_block ?_) | (refine aw_exit ?_) | (refine aw_ret ?_) | (refine arl_cons rfl rfl (by simp +decide only [aop, abuiltin, aeval, aintBin, bin_int, aload_bump, SS, reduceIte, reduceCtorEq, d1, d2, d3, d4, d5, d6, d7, d8, d9]; exact rfl) (by first | rfl | with_reducible assumption) rfl ?_) | (refine arl_none rfl rfl (by simp +decide only [aop, abuiltin, aeval, aintBin, bin_int, aload_bump, SS, reduceIte, reduceCtorEq, d1, d2, d3, d4, d5, d6, d7, d8, d9]; exact rfl) rfl rfl ?_) | (refine arl_off rfl rfl ?_) | (refine aw_condT (by simp +decide only [aop, abuiltin, aeval, aintBin, bin_int, aload_bump, SS, reduceIte, reduceCtorEq, d1, d2, d3, d4, d5, d6, d7, d8, d9]; first | done | exact rfl) ?_) | (refine aw_condF (by simp +decide only [aop, abuiltin, aeval, aintBin, bin_int, aload_bump, SS, reduceIte, reduceCtorEq, d1, d2, d3, d4, d5, d6, d7, d8, d9]; first | done | exact rfl) ?_))
    exact ⟨.inr rfl, _, rfl, (by repeat (first | exact Keeps.refl _ _ | (refine Keeps.bumpR ?_ _))), true, rfl, by simp; omega⟩
  · have d1 : decide ((n : Int) ≥ 97) = true := decide_eq_true (by omega)
    have d2 : decide ((n : Int) ≤ 122) = false := decide_eq_false (by omega)
    have d3 : decide ((n : Int) ≥ 65) = true := decide_eq_true (by omega)
    have d4 : decide ((n : Int) ≤ 90) = false := decide_eq_false (by omega)
    have d5 : decide ((n : Int) ≥ 48) = true := decide_eq_true (by omega)
    have d6 : decide ((n : Int) ≤ 57) = false := decide_eq_false (by omega)
    have d7 : ((n : Int) == 46) = false := by simp; omega
    have d8 : ((n : Int) == 95) = false := by simp; omega
    have d9 : ((n : Int) == 45) = false := by simp; omega
    repeat (first | (refine aw_seq ?_) | (refine aw_reg0 (by simp only [SZ, Nat.reduceAdd]; exact rfl) ?_) | (refine aw_reg (by decide +kernel) (by simp only [SZ, Nat.reduceAdd]; exact rfl) ?_) | (refine aw_regS (by decide +kernel) (by simp only [SZ, Nat.reduceAdd]; exact rfl) ?_) | (refine aw_regN (by decide +kernel) (by simp only [SZ, Nat.reduceAdd]; exact rfl) (by repeat (first | assumption | (refine WF.bump ?_ _))) ?_) | (refine arl_nil ?_) | (refine aw_skip ?_) | (refine aw_block ?_) | (refine aw_exit ?_) | (refine aw_ret ?_) | (refine arl_cons rfl rfl (by simp +decide only [aop, abuiltin, aeval, aintBin, bin_int, aload_bump, SS, reduceIte, reduceCtorEq, d1, d2, d3, d4, d5, d6, d7, d8, d9]; exact rfl) (by first | rfl | with_reducible assumption) rfl ?_) | (refine arl_none rfl rfl (by simp +decide only [aop, abuiltin, aeval, aintBin, bin_int, aload_bump, SS, reduceIte, reduceCtorEq, d1, d2, d3, d4, d5, d6, d7, d8, d9]; exact rfl) rfl rfl ?_) | (refine arl_off rfl rfl ?_) | (refine aw_condT (by simp +decide only [aop, abuiltin, aeval, aintBin, bin_int, aload_bump, SS, reduceIte, reduceCtorEq, d1, d2, d3, d4, d5, d6, d7, d8, d9]; first | done | exact rfl) ?_) | (refine aw_condF (by simp +decide only [aop, abuiltin, aeval, aintBin, bin_int, aload_bump, SS, reduceIte, reduceCtorEq, d1, d2, d3, d4, d5, d6, d7, d8, d9]; first | done | exact rfl) ?_))
    exact ⟨.inr rfl, _, rfl, (by repeat (first | exact Keeps.refl _ _ | (refine Keeps.bumpR ?_ _))), false, rfl, by simp; omega⟩
  · have d1 : decide ((n : Int) ≥ 97) = false := decide_eq_false (by omega)
    have d2 : decide ((n : Int) ≤ 122) = true := decide_eq_true (by omega)
    have d3 : decide ((n : Int) ≥ 65) = true := decide_eq_true (by omega)
    have d4 : decide ((n : Int) ≤ 90) = true := decide_eq_true (by omega)
    have d5 : decide ((n : Int) ≥ 48) = true := decide_eq_true (by omega)
    have d6 : decide ((n : Int) ≤ 57) = false := decide_eq_false (by omega)
    have d7 : ((n : Int) == 46) = false := by simp; omega
    have d8 : ((n : Int) == 95) = false := by simp; omega
    have d9 : ((n : Int) == 45) = false := by simp; omega
    repeat (first | (refine aw_seq ?_) | (refine aw_reg0 (by simp only [SZ, Nat.reduceAdd]; exact rfl) ?_) | (refine aw_reg (by decide +kernel) (by simp only [SZ, Nat.reduceAdd]; exact rfl) ?_) | (refine aw_regS (by decide +kernel) (by simp only [SZ, Nat.reduceAdd]; exact rfl) ?_) | (refine aw_regN (by decide +kernel) (by simp only [SZ, Nat.reduceAdd]; exact rfl) (by repeat (first | assumption | (refine WF.bump ?_ _))) ?_) | (refine arl_nil ?_) | (refine aw_skip ?_) | (refine aw_block ?_) | (refine aw_exit ?_) | (refine aw_ret ?_) | (refine arl_cons rfl rfl (by simp +decide only [aop, abuiltin, aeval, aintBin, bin_int, aload_bump, SS, reduceIte, reduceCtorEq, d1, d2, d3, d4, d5, d6, d7, d8, d9]; exact rfl) (by first | rfl | with_reducible assumption) rfl ?_) | (refine arl_none rfl rfl (by simp +decide only [aop, abuiltin, aeval, aintBin, bin_int, aload_bump, SS, reduceIte, reduceCtorEq, d1, d2, d3, d4, d5, d6, d7, d8, d9]; exact rfl) rfl rfl ?_) | (refine arl_off rfl rfl ?_) | (refine aw_condT (by simp +decide only [aop, abuiltin, aeval, aintBin, bin_int, aload_bump, SS, reduceIte, reduceCtorEq, d1, d2, d3, d4, d5, d6, d7, d8, d9]; first | done | exact rfl) ?_) | (refine aw_condF (by simp +decide only [aop, abuiltin, aeval, aintBin, bin_int, aload_bump, SS, reduceIte, reduceCtorEq, d1, d2, d3, d4, d5, d6, d7, d8, d9]; first | done | exact rfl) ?_))
    exact ⟨.inr rfl, _, rfl, (by repeat (first | exact Keeps.refl _ _ | (refine Keeps.bumpR ?_ _))), true, rfl, by simp; omega⟩
  · have d1 : decide ((n : Int) ≥ 97) = false := decide_eq_false (by omega)
    have d2 : decide ((n : Int) ≤ 122) = true := decide_eq_true (by omega)
    have d3 : decide ((n : Int) ≥ 65) = true := decide_eq_true (by omega)
    have d4 : decide ((n : Int) ≤ 90) = false := decide_eq_false (by omega)
    have d5 : decide ((n : Int) ≥ 48) = true := decide_eq_true (by omega)
    have d6 : decide ((n : Int) ≤ 57) = false := decide_eq_false (by omega)
    have d7 : ((n : Int) == 46) = false := by simp; omega
    have d8 : ((n : Int) == 95) = true := by simp; omega
    have d9 : ((n : Int) == 45) = false := by simp; omega
    repeat (first | (refine aw_seq ?_) | (refine aw_reg0 (by simp only [SZ, Nat.reduceAdd]; exact rfl) ?_) | (refine aw_reg (by decide +kernel) (by simp only [SZ, Nat.reduceAdd]; exact rfl) ?_) | (refine aw_regS (by decide +kernel) (by simp only [SZ, Nat.reduceAdd]; exact rfl) ?_) | (refine aw_regN (by decide +kernel) (by simp only [SZ, Nat.reduceAdd]; exact rfl) (by repeat (first | assumption | (refine WF.bump ?_ _))) ?_) | (refine arl_nil ?_) | (refine aw_skip ?_) | (refine aw_block ?_) | (refine aw_exit ?_) | (refine aw_ret ?_) | (refine arl_cons rfl rfl (by simp +decide only [aop, abuiltin, aeval, aintBin, bin_int, aload_bump, SS, reduceIte, reduceCtorEq, d1, d2, d3, d4, d5, d6, d7, d8, d9]; exact rfl) (by first | rfl | with_reducible assumption) rfl ?_) | (refine arl_none rfl rfl (by simp +decide only [aop, abuiltin, aeval, aintBin, bin_int, aload_bump, SS, reduceIte, reduceCtorEq, d1, d2, d3, d4, d5, d6, d7, d8, d9]; exact rfl) rfl rfl ?_) | (refine arl_off rfl rfl ?_) | (refine aw_condT (by simp +decide only [aop, abuiltin, aeval, aintBin, bin_int, aload_bump, SS, reduceIte, reduceCtorEq, d1, d2, d3, d4, d5, d6, d7, d8, d9]; first | done | exact rfl) ?_) | (refine aw_condF (by simp +decide only [aop, abuiltin, aeval, aintBin, bin_int, aload_bump, SS, reduceIte, reduceCtorEq, d1, d2, d3, d4, d5, d6, d7, d8, d9]; first | done | exact rfl) ?_))
    exact ⟨.inr rfl, _, rfl, (by repeat (first | exact Keeps.refl _ _ | (refine Keeps.bumpR ?_ _))), true, rfl, by simp; omega⟩
  · have d1 : decide ((n : Int) ≥ 97) = false := decide_eq_false (by omega)
    have d2 : decide ((n : Int) ≤ 122) = true := decide_eq_true (by omega)
    have d3 : decide ((n : Int) ≥ 65) = true := decide_eq_true (by omega)
    have d4 : decide ((n : Int) ≤ 90) = false := decide_eq_false (by omega)
    have d5 : decide ((n : Int) ≥ 48) = true := decide_eq_true (by omega)
    have d6 : decide ((n : Int) ≤ 57) = false := decide_eq_false (by omega)
    have d7 : ((n : Int) == 46) = false := by simp; omega
    have d8 : ((n : Int) == 95) = false := by simp; omega
    have d9 : ((n : Int) == 45) = false := by simp; omega
    repeat (first | (refine aw_seq ?_) | (refine aw_reg0 (by simp only [SZ, Nat.reduceAdd]; exact rfl) ?_) | (refine aw_reg (by decide +kernel) (by simp only [SZ, Nat.reduceAdd]; exact rfl) ?_) | (refine aw_regS (by decide +kernel) (by simp only [SZ, Nat.reduceAdd]; exact rfl) ?_) | (refine aw_regN (by decide +kernel) (by simp only [SZ, Nat.reduceAdd]; exact rfl) (by repeat (first | assumption | (refine WF.bump ?_ _))) ?_) | (refine arl_nil ?_) | (refine aw_skip ?_) | (refine aw_block ?_) | (refine aw_exit ?_) | (refine aw_ret ?_) | (refine arl_cons rfl rfl (by simp +decide only [aop, abuiltin, aeval, aintBin, bin_int, aload_bump, SS, reduceIte, reduceCtorEq, d1, d2, d3, d4, d5, d6, d7, d8, d9]; exact rfl) (by first | rfl | with_reducible assumption) rfl ?_) | (refine arl_none rfl rfl (by simp +decide only [aop, abuiltin, aeval, aintBin, bin_int, aload_bump, SS, reduceIte, reduceCtorEq, d1, d2, d3, d4, d5, d6, d7, d8, d9]; exact rfl) rfl rfl ?_) | (refine arl_off rfl rfl ?_) | (refine aw_condT (by simp +decide only [aop, abuiltin, aeval, aintBin, bin_int, aload_bump, SS, reduceIte, reduceCtorEq, d1, d2, d3, d4, d5, d6, d7, d8, d9]; first | done | exact rfl) ?_) | (refine aw_condF (by simp +decide only [aop, abuiltin, aeval, aintBin, bin_int, aload_bump, SS, reduceIte, reduceCtorEq, d1, d2, d3, d4, d5, d6, d7, d8, d9]; first | done | exact rfl) ?_))
    exact ⟨.inr rfl, _, rfl, (by repeat (first | exact Keeps.refl _ _ | (refine Keeps.bumpR ?_ _))), false, rfl, by simp; omega⟩
  · have d1 : decide ((n : Int) ≥ 97) = false := decide_eq_false (by omega)
    have d2 : decide ((n : Int) ≤ 122) = true := decide_eq_true (by omega)
    have d3 : decide ((n : Int) ≥ 65) = true := decide_eq_true (by omega)
    have d4 : decide ((n : Int) ≤ 90) = false := decide_eq_false (by omega)
    have d5 : decide ((n : Int) ≥ 48) = true := decide_eq_true (by omega)
    have d6 : decide ((n : Int) ≤ 57) = false := decide_eq_false (by omega)
    have d7 : ((n : Int) == 46) = false := by simp; omega
    have d8 : ((n : Int) == 95) = false := by simp; omega
    have d9 : ((n : Int) == 45) = false := by simp; omega
    repeat (first | (refine aw_seq ?_) | (refine aw_reg0 (by simp only [SZ, Nat.reduceAdd]; exact rfl) ?_) | (refine aw_reg (by decide +kernel) (by simp only [SZ, Nat.reduceAdd]; exact rfl) ?_) | (refine aw_regS (by decide +kernel) (by simp only [SZ, Nat.reduceAdd]; exact rfl) ?_) | (refine aw_regN (by decide +kernel) (by simp only [SZ, Nat.reduceAdd]; exact rfl) (by repeat (first | assumption | (refine WF.bump ?_ _))) ?_) | (refine arl_nil ?_) | (refine aw_skip ?_) | (refine aw_block ?_) | (refine aw_exit ?_) | (refine aw_ret ?_) | (refine arl_cons rfl rfl (by simp +decide only [aop, abuiltin, aeval, aintBin, bin_int, aload_bump, SS, reduceIte, reduceCtorEq, d1, d2, d3, d4, d5, d6, d7, d8, d9]; exact rfl) (by first | rfl | with_reducible assumption) rfl ?_) | (refine arl_none rfl rfl (by simp +decide only [aop, abuiltin, aeval, aintBin, bin_int, aload_bump, SS, reduceIte, reduceCtorEq, d1, d2, d3, d4, d5, d6, d7, d8, d9]; exact rfl) rfl rfl ?_) | (refine arl_off rfl rfl ?_) | (refine aw_condT (by simp +decide only [aop, abuiltin, aeval, aintBin, bin_int, aload_bump, SS, reduceIte, reduceCtorEq, d1, d2, d3, d4, d5, d6, d7, d8, d9]; first | done | exact rfl) ?_) | (refine aw_condF (by simp +decide only [aop, abuiltin, aeval, aintBin, bin_int, aload_bump, SS, reduceIte, reduceCtorEq, d1, d2, d3, d4, d5, d6, d7, d8, d9]; first | done | exact rfl) ?_))
    exact ⟨.inr rfl, _, rfl, (by repeat (first | exact Keeps.refl _ _ | (refine Keeps.bumpR ?_ _))), false, rfl, by simp; omega⟩
  · have d1 : decide ((n : Int) ≥ 97) = false := decide_eq_false (by omega)
    have d2 : decide ((n : Int) ≤ 122) = true := decide_eq_true (by omega)
    have d3 : decide ((n : Int) ≥ 65) = false := decide_eq_false (by omega)
    have d4 : decide ((n : Int) ≤ 90) = true := decide_eq_true (by omega)
    have d5 : decide ((n : Int) ≥ 48) = true := decide_eq_true (by omega)
    have d6 : decide ((n : Int) ≤ 57) = true := decide_eq_true (by omega)
    have d7 : ((n : Int) == 46) = false := by simp; omega
    have d8 : ((n : Int) == 95) = false := by simp; omega
    have d9 : ((n : Int) == 45) = false := by simp; omega
    repeat (first | (refine aw_seq ?_) | (refine aw_reg0 (by simp only [SZ, Nat.reduceAdd]; exact rfl) ?_) | (refine aw_reg (by decide +kernel) (by simp only [SZ, Nat.reduceAdd]; exact rfl) ?_) | (refine aw_regS (by decide +kernel) (by simp only [SZ, Nat.reduceAdd]; exact rfl) ?_) | (refine aw_regN (by decide +kernel) (by simp only [SZ, Nat.reduceAdd]; exact rfl) (by repeat (first | assumption | (refine WF.bump ?_ _))) ?_) | (refine arl_nil ?_) | (refine aw_skip ?_) | (refine aw_block ?_) | (refine aw_exit ?_) | (refine aw_ret ?_) | (refine arl_cons rfl rfl (by simp +decide only [aop, abuiltin, aeval, aintBin, bin_int, aload_bump, SS, reduceIte, reduceCtorEq, d1, d2, d3, d4, d5, d6, d7, d8, d9]; exact rfl) (by first | rfl | with_reducible assumption) rfl ?_) | (refine arl_none rfl rfl (by simp +decide only [aop, abuiltin, aeval, aintBin, bin_int, aload_bump, SS, reduceIte, reduceCtorEq, d1, d2, d3, d4, d5, d6, d7, d8, d9]; exact rfl) rfl rfl ?_) | (refine arl_off rfl rfl ?_) | (refine aw_condT (by simp +decide only [aop, abuiltin, aeval, aintBin, bin_int, aload_bump, SS, reduceIte, reduceCtorEq, d1, d2, d3, d4, d5, d6, d7, d8, d9]; first | done | exact rfl) ?_) | (refine aw_condF (by simp +decide only [aop, abuiltin, aeval, aintBin, bin_int, aload_bump, SS, reduceIte, reduceCtorEq, d1, d2, d3, d4, d5, d6, d7, d8, d9]; first | done | exact rfl) ?_))
    exact ⟨.inr rfl, _, rfl, (by repeat (first | exact Keeps.refl _ _ | (refine Keeps.bumpR ?_ _))), true, rfl, by simp; omega⟩
  · have d1 : decide ((n : Int) ≥ 97) = false := decide_eq_false (by omega)
    have d2 : decide ((n : Int) ≤ 122) = true := decide_eq_true (by omega)
    have d3 : decide ((n : Int) ≥ 65) = false := decide_eq_false (by omega)
    have d4 : decide ((n : Int) ≤ 90) = true := decide_eq_true (by omega)
    have d5 : decide ((n : Int) ≥ 48) = true := decide_eq_true (by omega)
    have d6 : decide ((n : Int) ≤ 57) = false := decide_eq_false (by omega)
    have d7 : ((n : Int) == 46) = false := by simp; omega
    have d8 : ((n : Int) == 95) = false := by simp; omega
    have d9 : ((n : Int) == 45) = false := by simp; omega
    repeat (first | (refine aw_seq ?_) | (refine aw_reg0 (by simp only [SZ, Nat.reduceAdd]; exact rfl) ?_) | (refine aw_reg (by decide +kernel) (by simp only [SZ, Nat.reduceAdd]; exact rfl) ?_) | (refine aw_regS (by decide +kernel) (by simp only [SZ, Nat.reduceAdd]; exact rfl) ?_) | (refine aw_regN (by decide +kernel) (by simp only [SZ, Nat.reduceAdd]; exact rfl) (by repeat (first | assumption | (refine WF.bump ?_ _))) ?_) | (refine arl_nil ?_) | (refine aw_skip ?_) | (refine aw_block ?_) | (refine aw_exit ?_) | (refine aw_ret ?_) | (refine arl_cons rfl rfl (by simp +decide only [aop, abuiltin, aeval, aintBin, bin_int, aload_bump, SS, reduceIte, reduceCtorEq, d1, d2, d3, d4, d5, d6, d7, d8, d9]; exact rfl) (by first | rfl | with_reducible assumption) rfl ?_) | (refine arl_none rfl rfl (by simp +decide only [aop, abuiltin, aeval, aintBin, bin_int, aload_bump, SS, reduceIte, reduceCtorEq, d1, d2, d3, d4, d5, d6, d7, d8, d9]; exact rfl) rfl rfl ?_) | (refine arl_off rfl rfl ?_) | (refine aw_condT (by simp +decide only [aop, abuiltin, aeval, aintBin, bin_int, aload_bump, SS, reduceIte, reduceCtorEq, d1, d2, d3, d4, d5, d6, d7, d8, d9]; first | done | exact rfl) ?_) | (refine aw_condF (by simp +decide only [aop, abuiltin, aeval, aintBin, bin_int, aload_bump, SS, reduceIte, reduceCtorEq, d1, d2, d3, d4, d5, d6, d7, d8, d9]; first | done | exact rfl) ?_))
    exact ⟨.inr rfl, _, rfl, (by repeat (first | exact Keeps.refl _ _ | (refine Keeps.bumpR ?_ _))), false, rfl, by simp; omega⟩
  · have d1 : decide ((n : Int) ≥ 97) = false := decide_eq_false (by omega)
    have d2 : decide ((n : Int) ≤ 122) = true := decide_eq_true (by omega)
    have d3 : decide ((n : Int) ≥ 65) = false := decide_eq_false (by omega)
    have d4 : decide ((n : Int) ≤ 90) = true := decide_eq_true (by omega)
    have d5 : decide ((n : Int) ≥ 48) = false := decide_eq_false (by omega)
    have d6 : decide ((n : Int) ≤ 57) = true := decide_eq_true (by omega)
    have d7 : ((n : Int) == 46) = true := by simp; omega
    have d8 : ((n : Int) == 95) = false := by simp; omega
    have d9 : ((n : Int) == 45) = false := by simp; omega
    repeat (first | (refine aw_seq ?_) | (refine aw_reg0 (by simp only [SZ, Nat.reduceAdd]; exact rfl) ?_) | (refine aw_reg (by decide +kernel) (by simp only [SZ, Nat.reduceAdd]; exact rfl) ?_) | (refine aw_regS (by decide +kernel) (by simp only [SZ, Nat.reduceAdd]; exact rfl) ?_) | (refine aw_regN (by decide +kernel) (by simp only [SZ, Nat.reduceAdd]; exact rfl) (by repeat (first | assumption | (refine WF.bump ?_ _))) ?_) | (refine arl_nil ?_) | (refine aw_skip ?_) | (refine aw_block ?_) | (refine aw_exit ?_) | (refine aw_ret ?_) | (refine arl_cons rfl rfl (by simp +decide only [aop, abuiltin, aeval, aintBin, bin_int, aload_bump, SS, reduceIte, reduceCtorEq, d1, d2, d3, d4, d5, d6, d7, d8, d9]; exact rfl) (by first | rfl | with_reducible assumption) rfl ?_) | (refine arl_none rfl rfl (by simp +decide only [aop, abuiltin, aeval, aintBin, bin_int, aload_bump, SS, reduceIte, reduceCtorEq, d1, d2, d3, d4, d5, d6, d7, d8, d9]; exact rfl) rfl rfl ?_) | (refine arl_off rfl rfl ?_) | (refine aw_condT (by simp +decide only [aop, abuiltin, aeval, aintBin, bin_int, aload_bump, SS, reduceIte, reduceCtorEq, d1, d2, d3, d4, d5, d6, d7, d8, d9]; first | done | exact rfl) ?_) | (refine aw_condF (by simp +decide only [aop, abuiltin, aeval, aintBin, bin_int, aload_bump, SS, reduceIte, reduceCtorEq, d1, d2, d3, d4, d5, d6, d7, d8, d9]; first | done | exact rfl) ?_))
    exact ⟨.inr rfl, _, rfl, (by repeat (first | exact Keeps.refl _ _ | (refine Keeps.bumpR ?_ _))), true, rfl, by simp; omega⟩
  · have d1 : decide ((n : Int) ≥ 97) = false := decide_eq_false (by omega)
    have d2 : decide ((n : Int) ≤ 122) = true := decide_eq_true (by omega)
    have d3 : decide ((n : Int) ≥ 65) = false := decide_eq_false (by omega)
    have d4 : decide ((n : Int) ≤ 90) = true := decide_eq_true (by omega)
    have d5 : decide ((n : Int) ≥ 48) = false := decide_eq_false (by omega)
    have d6 : decide ((n : Int) ≤ 57) = true := decide_eq_true (by omega)
    have d7 : ((n : Int) == 46) = false := by simp; omega
    have d8 : ((n : Int) == 95) = false := by simp; omega
    have d9 : ((n : Int) == 45) = true := by simp; omega
    repeat (first | (refine aw_seq ?_) | (refine aw_reg0 (by simp only [SZ, Nat.reduceAdd]; exact rfl) ?_) | (refine aw_reg (by decide +kernel) (by simp only [SZ, Nat.reduceAdd]; exact rfl) ?_) | (refine aw_regS (by decide +kernel) (by simp only [SZ, Nat.reduceAdd]; exact rfl) ?_) | (refine aw_regN (by decide +kernel) (by simp only [SZ, Nat.reduceAdd]; exact rfl) (by repeat (first | assumption | (refine WF.bump ?_ _))) ?_) | (refine arl_nil ?_) | (refine aw_skip ?_) | (refine aw_block ?_) | (refine aw_exit ?_) | (refine aw_ret ?_) | (refine arl_cons rfl rfl (by simp +decide only [aop, abuiltin, aeval, aintBin, bin_int, aload_bump, SS, reduceIte, reduceCtorEq, d1, d2, d3, d4, d5, d6, d7, d8, d9]; exact rfl) (by first | rfl | with_reducible assumption) rfl ?_) | (refine arl_none rfl rfl (by simp +decide only [aop, abuiltin, aeval, aintBin, bin_int, aload_bump, SS, reduceIte, reduceCtorEq, d1, d2, d3, d4, d5, d6, d7, d8, d9]; exact rfl) rfl rfl ?_) | (refine arl_off rfl rfl ?_) | (refine aw_condT (by simp +decide only [aop, abuiltin, aeval, aintBin, bin_int, aload_bump, SS, reduceIte, reduceCtorEq, d1, d2, d3, d4, d5, d6, d7, d8, d9]; first | done | exact rfl) ?_) | (refine aw_condF (by simp +decide only [aop, abuiltin, aeval, aintBin, bin_int, aload_bump, SS, reduceIte, reduceCtorEq, d1, d2, d3, d4, d5, d6, d7, d8, d9]; first | done | exact rfl) ?_))
    exact ⟨.inr rfl, _, rfl, (by repeat (first | exact Keeps.refl _ _ | (refine Keeps.bumpR ?_ _))), true, rfl, by simp; omega⟩
  · have d1 : decide ((n : Int) ≥ 97) = false := decide_eq_false (by omega)
    have d2 : decide ((n : Int) ≤ 122) = true := decide_eq_true (by omega)
    have d3 : decide ((n : Int) ≥ 65) = false := decide_eq_false (by omega)
    have d4 : decide ((n : Int) ≤ 90) = true := decide_eq_true (by omega)
    have d5 : decide ((n : Int) ≥ 48) = false := decide_eq_false (by omega)
    have d6 : decide ((n : Int) ≤ 57) = true := decide_eq_true (by omega)
    have d7 : ((n : Int) == 46) = false := by simp; omega
    have d8 : ((n : Int) == 95) = false := by simp; omega
    have d9 : ((n : Int) == 45) = false := by simp; omega
    repeat (first | (refine aw_seq ?_) | (refine aw_reg0 (by simp only [SZ, Nat.reduceAdd]; exact rfl) ?_) | (refine aw_reg (by decide +kernel) (by simp only [SZ, Nat.reduceAdd]; exact rfl) ?_) | (refine aw_regS (by decide +kernel) (by simp only [SZ, Nat.reduceAdd]; exact rfl) ?_) | (refine aw_regN (by decide +kernel) (by simp only [SZ, Nat.reduceAdd]; exact rfl) (by repeat (first | assumption | (refine WF.bump ?_ _))) ?_) | (refine arl_nil ?_) | (refine aw_skip ?_) | (refine aw_block ?_) | (refine aw_exit ?_) | (refine aw_ret ?_) | (refine arl_cons rfl rfl (by simp +decide only [aop, abuiltin, aeval, aintBin, bin_int, aload_bump, SS, reduceIte, reduceCtorEq, d1, d2, d3, d4, d5, d6, d7, d8, d9]; exact rfl) (by first | rfl | with_reducible assumption) rfl ?_) | (refine arl_none rfl rfl (by simp +decide only [aop, abuiltin, aeval, aintBin, bin_int, aload_bump, SS, reduceIte, reduceCtorEq, d1, d2, d3, d4, d5, d6, d7, d8, d9]; exact rfl) rfl rfl ?_) | (refine arl_off rfl rfl ?_) | (refine aw_condT (by simp +decide only [aop, abuiltin, aeval, aintBin, bin_int, aload_bump, SS, reduceIte, reduceCtorEq, d1, d2, d3, d4, d5, d6, d7, d8, d9]; first | done | exact rfl) ?_) | (refine aw_condF (by simp +decide only [aop, abuiltin, aeval, aintBin, bin_int, aload_bump, SS, reduceIte, reduceCtorEq, d1, d2, d3, d4, d5, d6, d7, d8, d9]; first | done | exact rfl) ?_))
    exact ⟨.inr rfl, _, rfl, (by repeat (first | exact Keeps.refl _ _ | (refine Keeps.bumpR ?_ _))), false, rfl, by simp; omega⟩
  · have d1 : decide ((n : Int) ≥ 97) = false := decide_eq_false (by omega)
    have d2 : decide ((n : Int) ≤ 122) = true := decide_eq_true (by omega)
    have d3 : decide ((n : Int) ≥ 65) = false := decide_eq_false (by omega)
    have d4 : decide ((n : Int) ≤ 90) = true := decide_eq_true (by omega)
    have d5 : decide ((n : Int) ≥ 48) = false := decide_eq_false (by omega)
    have d6 : decide ((n : Int) ≤ 57) = true := decide_eq_true (by omega)
    have d7 : ((n : Int) == 46) = false := by simp; omega
    have d8 : ((n : Int) == 95) = false := by simp; omega
    have d9 : ((n : Int) == 45) = false := by simp; omega
    repeat (first | (refine aw_seq ?_) | (refine aw_reg0 (by simp only [SZ, Nat.reduceAdd]; exact rfl) ?_) | (refine aw_reg (by decide +kernel) (by simp only [SZ, Nat.reduceAdd]; exact rfl) ?_) | (refine aw_regS (by decide +kernel) (by simp only [SZ, Nat.reduceAdd]; exact rfl) ?_) | (refine aw_regN (by decide +kernel) (by simp only [SZ, Nat.reduceAdd]; exact rfl) (by repeat (first | assumption | (refine WF.bump ?_ _))) ?_) | (refine arl_nil ?_) | (refine aw_skip ?_) | (refine aw_block ?_) | (refine aw_exit ?_) | (refine aw_ret ?_) | (refine arl_cons rfl rfl (by simp +decide only [aop, abuiltin, aeval, aintBin, bin_int, aload_bump, SS, reduceIte, reduceCtorEq, d1, d2, d3, d4, d5, d6, d7, d8, d9]; exact rfl) (by first | rfl | with_reducible assumption) rfl ?_) | (refine arl_none rfl rfl (by simp +decide only [aop, abuiltin, aeval, aintBin, bin_int, aload_bump, SS, reduceIte, reduceCtorEq, d1, d2, d3, d4, d5, d6, d7, d8, d9]; exact rfl) rfl rfl ?_) | (refine arl_off rfl rfl ?_) | (refine aw_condT (by simp +decide only [aop, abuiltin, aeval, aintBin, bin_int, aload_bump, SS, reduceIte, reduceCtorEq, d1, d2, d3, d4, d5, d6, d7, d8, d9]; first | done | exact rfl) ?_) | (refine aw_condF (by simp +decide only [aop, abuiltin, aeval, aintBin, bin_int, aload_bump, SS, reduceIte, reduceCtorEq, d1, d2, d3, d4, d5, d6, d7, d8, d9]; first | done | exact rfl) ?_))
    exact ⟨.inr rfl, _, rfl, (by repeat (first | exact Keeps.refl _ _ | (refine Keeps.bumpR ?_ _))), false, rfl, by simp; omega⟩
theorem str_at (s : ByteArray) (k : Nat) (hk : k < s.size) : aindex Tryd.prog 9 (str s) (i64 k) = some (u8 (s[k]'hk).toNat) := by
  simp only [aindex, Tryd.underlying9]
  rw [if_pos (by omega), Int.toNat_natCast, getElem?_pos s k hk]
  rfl
theorem str_len (s : ByteArray) : alen Tryd.prog #[9] [str s] = some (i64 s.size) := by
  simp [alen, isStrD, Tryd.underlying9]
set_option maxHeartbeats 1000000 in
theorem rtopic_ok {st : St} (hw : WF st) (s : ByteArray) : ACalls Tryd.prog 7 [str s] st (fun r s' => Ext st s' ∧ ∃ e : Int, r = i64 e ∧ (e = 0 ↔ OkT s.data.toList)) := by
  refine acalls_of Tryd.func7 rfl (by kernel_rfl) rfl ?_
  have hln := str_len s
  have hsz := Lib.size_eq s
  have htl := Lib.toList_data s
  have c46 : (⟨#[46]⟩ : ByteArray).toList = [46] := bs_toList [46]
  have c46b : (⟨#[46, 46]⟩ : ByteArray).toList = [46, 46] := bs_toList [46, 46]
  by_cases h0 : s.size = 0
  · have d1 : ((s.size : Int) == 0) = true := by simp [h0]
    repeat (first | (refine aw_seq ?_) | (refine aw_reg0 (by simp only [SZ, Nat.reduceAdd]; exact rfl) ?_) | (refine aw_reg (by decide +kernel) (by simp only [SZ, Nat.reduceAdd]; exact rfl) ?_) | (refine aw_regS (by decide +kernel) (by simp only [SZ, Nat.reduceAdd]; exact rfl) ?_) | (refine aw_regN (by decide +kernel) (by simp only [SZ, Nat.reduceAdd]; exact rfl) (by repeat (first | assumption | (refine WF.bump ?_ _))) ?_) | (refine arl_nil ?_) | (refine aw_skip ?_) | (refine aw_block ?_) | (refine aw_exit ?_) | (refine aw_ret ?_) | (refine arl_cons rfl rfl (by simp +decide only [aop, abuiltin, aeval, aintBin, bin_int, aload_bump, SS, reduceIte, reduceCtorEq, hln, d1]; exact rfl) (by first | rfl | with_reducible assumption) rfl ?_) | (refine arl_none rfl rfl (by simp +decide only [aop, abuiltin, aeval, aintBin, bin_int, aload_bump, SS, reduceIte, reduceCtorEq, hln, d1]; exact rfl) rfl rfl ?_) | (refine arl_off rfl rfl ?_) | (refine aw_condT (by simp +decide only [aop, abuiltin, aeval, aintBin, bin_int, aload_bump, SS, reduceIte, reduceCtorEq, hln, d1]; first | done | exact rfl) ?_) | (refine aw_condF (by simp +decide only [aop, abuiltin, aeval, aintBin, bin_int, aload_bump, SS, reduceIte, reduceCtorEq, hln, d1]; first | done | exact rfl) ?_))
    exact ⟨.inr rfl, _, rfl, (by repeat (first | exact Keeps.refl _ _ | (refine Keeps.bumpR ?_ _))), 40, rfl, by
      constructor
      · intro h; cases h
      · intro h; have := h.lo; omega⟩
  have d1 : ((s.size : Int) == 0) = false := by simp [h0]
  by_cases h1 : s.data.toList = [46]
  · have e1 : ∀ t, abin Tryd.prog .eql t (str s) (str ⟨#[46]⟩) = some (.bool true) := by
      intro t
      simp only [abin, astrBin, htl, h1, c46]
      rfl
    repeat (first | (refine aw_seq ?_) | (refine aw_reg0 (by simp only [SZ, Nat.reduceAdd]; exact rfl) ?_) | (refine aw_reg (by decide +kernel) (by simp only [SZ, Nat.reduceAdd]; exact rfl) ?_) | (refine aw_regS (by decide +kernel) (by simp only [SZ, Nat.reduceAdd]; exact rfl) ?_) | (refine aw_regN (by decide +kernel) (by simp only [SZ, Nat.reduceAdd]; exact rfl) (by repeat (first | assumption | (refine WF.bump ?_ _))) ?_) | (refine arl_nil ?_) | (refine aw_skip ?_) | (refine aw_block ?_) | (refine aw_exit ?_) | (refine aw_ret ?_) | (refine arl_cons rfl rfl (by simp +decide only [aop, abuiltin, aeval, aintBin, bin_int, aload_bump, SS, reduceIte, reduceCtorEq, hln, d1, e1]; exact rfl) (by first | rfl | with_reducible assumption) rfl ?_) | (refine arl_none rfl rfl (by simp +decide only [aop, abuiltin, aeval, aintBin, bin_int, aload_bump, SS, reduceIte, reduceCtorEq, hln, d1, e1]; exact rfl) rfl rfl ?_) | (refine arl_off rfl rfl ?_) | (refine aw_condT (by simp +decide only [aop, abuiltin, aeval, aintBin, bin_int, aload_bump, SS, reduceIte, reduceCtorEq, hln, d1, e1]; first | done | exact rfl) ?_) | (refine aw_condF (by simp +decide only [aop, abuiltin, aeval, aintBin, bin_int, aload_bump, SS, reduceIte, reduceCtorEq, hln, d1, e1]; first | done | exact rfl) ?_))
    exact ⟨.inr rfl, _, rfl, (by repeat (first | exact Keeps.refl _ _ | (refine Keeps.bumpR ?_ _))), 40, rfl, by
      constructor
      · intro h; cases h
      · intro h; exact absurd h1 h.d1⟩
  have e1 : ∀ t, abin Tryd.prog .eql t (str s) (str ⟨#[46]⟩) = some (.bool false) := by
    intro t
    simp only [abin, astrBin, htl, c46]
    congr 2
    exact beq_eq_false_iff_ne.2 h1
  by_cases h2 : s.data.toList = [46, 46]
  · have e2 : ∀ t, abin Tryd.prog .eql t (str s) (str ⟨#[46, 46]⟩) = some (.bool true) := by
      intro t
      simp only [abin, astrBin, htl, h2, c46b]
      rfl
    repeat (first | (refine aw_seq ?_) | (refine aw_reg0 (by simp only [SZ, Nat.reduceAdd]; exact rfl) ?_) | (refine aw_reg (by decide +kernel) (by simp only [SZ, Nat.reduceAdd]; exact rfl) ?_) | (refine aw_regS (by decide +kernel) (by simp only [SZ, Nat.reduceAdd]; exact rfl) ?_) | (refine aw_regN (by decide +kernel) (by simp only [SZ, Nat.reduceAdd]; exact rfl) (by repeat (first | assumption | (refine WF.bump ?_ _))) ?_) | (refine arl_nil ?_) | (refine aw_skip ?_) | (refine aw_block ?_) | (refine aw_exit ?_) | (refine aw_ret ?_) | (refine arl_cons rfl rfl (by simp +decide only [aop, abuiltin, aeval, aintBin, bin_int, aload_bump, SS, reduceIte, reduceCtorEq, hln, d1, e1, e2]; exact rfl) (by first | rfl | with_reducible assumption) rfl ?_) | (refine arl_none rfl rfl (by simp +decide only [aop, abuiltin, aeval, aintBin, bin_int, aload_bump, SS, reduceIte, reduceCtorEq, hln, d1, e1, e2]; exact rfl) rfl rfl ?_) | (refine arl_off rfl rfl ?_) | (refine aw_condT (by simp +decide only [aop, abuiltin, aeval, aintBin, bin_int, aload_bump, SS, reduceIte, reduceCtorEq, hln, d1, e1, e2]; first | done | exact rfl) ?_) | (refine aw_condF (by simp +decide only [aop, abuiltin, aeval, aintBin, bin_int, aload_bump, SS, reduceIte, reduceCtorEq, hln, d1, e1, e2]; first | done | exact rfl) ?_))
    exact ⟨.inr rfl, _, rfl, (by repeat (first | exact Keeps.refl _ _ | (refine Keeps.bumpR ?_ _))), 40, rfl, by
      constructor
      · intro h; cases h
      · intro h; exact absurd h2 h.d2⟩
  have e2 : ∀ t, abin Tryd.prog .eql t (str s) (str ⟨#[46, 46]⟩) = some (.bool false) := by
    intro t
    simp only [abin, astrBin, htl, c46b]
    congr 2
    exact beq_eq_false_iff_ne.2 h2
  by_cases h3 : s.size > 64
  · have d3 : decide ((s.size : Int) > 64) = true := decide_eq_true (by omega)
    repeat (first | (refine aw_seq ?_) | (refine aw_reg0 (by simp only [SZ, Nat.reduceAdd]; exact rfl) ?_) | (refine aw_reg (by decide +kernel) (by simp only [SZ, Nat.reduceAdd]; exact rfl) ?_) | (refine aw_regS (by decide +kernel) (by simp only [SZ, Nat.reduceAdd]; exact rfl) ?_) | (refine aw_regN (by decide +kernel) (by simp only [SZ, Nat.reduceAdd]; exact rfl) (by repeat (first | assumption | (refine WF.bump ?_ _))) ?_) | (refine arl_nil ?_) | (refine aw_skip ?_) | (refine aw_block ?_) | (refine aw_exit ?_) | (refine aw_ret ?_) | (refine arl_cons rfl rfl (by simp +decide only [aop, abuiltin, aeval, aintBin, bin_int, aload_bump, SS, reduceIte, reduceCtorEq, hln, d1, e1, e2, d3]; exact rfl) (by first | rfl | with_reducible assumption) rfl ?_) | (refine arl_none rfl rfl (by simp +decide only [aop, abuiltin, aeval, aintBin, bin_int, aload_bump, SS, reduceIte, reduceCtorEq, hln, d1, e1, e2, d3]; exact rfl) rfl rfl ?_) | (refine arl_off rfl rfl ?_) | (refine aw_condT (by simp +decide only [aop, abuiltin, aeval, aintBin, bin_int, aload_bump, SS, reduceIte, reduceCtorEq, hln, d1, e1, e2, d3]; first | done | exact rfl) ?_) | (refine aw_condF (by simp +decide only [aop, abuiltin, aeval, aintBin, bin_int, aload_bump, SS, reduceIte, reduceCtorEq, hln, d1, e1, e2, d3]; first | done | exact rfl) ?_))
    exact ⟨.inr rfl, _, rfl, (by repeat (first | exact Keeps.refl _ _ | (refine Keeps.bumpR ?_ _))), 4, rfl, by
      constructor
      · intro h; cases h
      · intro h; have := h.hi; omega⟩
  have d3 : decide ((s.size : Int) > 64) = false := decide_eq_false (by omega)
  repeat (first | (refine aw_seq ?_) | (refine aw_reg0 (by simp only [SZ, Nat.reduceAdd]; exact rfl) ?_) | (refine aw_reg (by decide +kernel) (by simp only [SZ, Nat.reduceAdd]; exact rfl) ?_) | (refine aw_regS (by decide +kernel) (by simp only [SZ, Nat.reduceAdd]; exact rfl) ?_) | (refine aw_regN (by decide +kernel) (by simp only [SZ, Nat.reduceAdd]; exact rfl) (by repeat (first | assumption | (refine WF.bump ?_ _))) ?_) | (refine arl_nil ?_) | (refine aw_skip ?_) | (refine aw_block ?_) | (refine aw_exit ?_) | (refine aw_ret ?_) | (refine arl_cons rfl rfl (by simp +decide only [aop, abuiltin, aeval, aintBin, bin_int, aload_bump, SS, reduceIte, reduceCtorEq, hln, d1, e1, e2, d3]; exact rfl) (by first | rfl | with_reducible assumption) rfl ?_) | (refine arl_none rfl rfl (by simp +decide only [aop, abuiltin, aeval, aintBin, bin_int, aload_bump, SS, reduceIte, reduceCtorEq, hln, d1, e1, e2, d3]; exact rfl) rfl rfl ?_) | (refine arl_off rfl rfl ?_) | (refine aw_condT (by simp +decide only [aop, abuiltin, aeval, aintBin, bin_int, aload_bump, SS, reduceIte, reduceCtorEq, hln, d1, e1, e2, d3]; first | done | exact rfl) ?_) | (refine aw_condF (by simp +decide only [aop, abuiltin, aeval, aintBin, bin_int, aload_bump, SS, reduceIte, reduceCtorEq, hln, d1, e1, e2, d3]; first | done | exact rfl) ?_))
  refine aw_rounds_wf (fun n fr sx => Ext st sx ∧ ∃ k : Nat, k ≤ s.size ∧ n = s.size - k ∧ fr 0 = str s ∧ fr 3 = i64 k ∧ ∀ j (hj : j < s.size), j < k → okB (s[j]'hj)) ?_ s.size _ _ (by repeat (first | assumption | (refine WF.bump ?_ _))) ?_
  · rintro n fr sx hws ⟨hE, k, hk, rfl, f0, f3, hok⟩
    by_cases hlt : k < s.size
    · have hd : decide ((k : Int) < (s.size : Int)) = true := decide_eq_true (by omega)
      have hat := str_at s k hlt
      have hwk := wrap_succ (k := k) (by omega)
      repeat (first | (refine aw_seq ?_) | (refine aw_reg0 (by simp only [SZ, Nat.reduceAdd]; exact rfl) ?_) | (refine aw_reg (by decide +kernel) (by simp only [SZ, Nat.reduceAdd]; exact rfl) ?_) | (refine aw_regS (by decide +kernel) (by simp only [SZ, Nat.reduceAdd]; exact rfl) ?_) | (refine aw_regN (by decide +kernel) (by simp only [SZ, Nat.reduceAdd]; exact rfl) (by repeat (first | assumption | (refine WF.bump ?_ _))) ?_) | (refine arl_nil ?_) | (refine aw_skip ?_) | (refine aw_block ?_) | (refine aw_exit ?_) | (refine aw_ret ?_) | (refine arl_cons rfl rfl (by simp +decide only [aop, abuiltin, aeval, aintBin, bin_int, aload_bump, SS, reduceIte, reduceCtorEq, f0, f3, hln, hd, hat]; exact rfl) (by first | rfl | with_reducible assumption) rfl ?_) | (refine arl_none rfl rfl (by simp +decide only [aop, abuiltin, aeval, aintBin, bin_int, aload_bump, SS, reduceIte, reduceCtorEq, f0, f3, hln, hd, hat]; exact rfl) rfl rfl ?_) | (refine arl_off rfl rfl ?_) | (refine aw_condT (by simp +decide only [aop, abuiltin, aeval, aintBin, bin_int, aload_bump, SS, reduceIte, reduceCtorEq, f0, f3, hln, hd, hat]; first | done | exact rfl) ?_) | (refine aw_condF (by simp +decide only [aop, abuiltin, aeval, aintBin, bin_int, aload_bump, SS, reduceIte, reduceCtorEq, f0, f3, hln, hd, hat]; first | done | exact rfl) ?_))
      refine arl_call rfl rfl rfl rfl rfl rfl ((rletter_ok (by repeat (first | assumption | (refine WF.bump ?_ _))) (s[k]'hlt)).wf (by repeat (first | assumption | (refine WF.bump ?_ _) | (refine WF.put ?_ (by simp only [n_bump, n_put, n_touch, n_kill] at *; omega) (by simp only [n_bump, n_put, n_touch, n_kill] at *; omega)))) |>.mono ?_)
      rintro r s5 ⟨hw5, hn5, hE5, ⟨b, rfl, hb⟩⟩
      refine ⟨by first | rfl | with_reducible assumption, ?_⟩
      replace hE5 : Ext sx s5 := Keeps.trans (by repeat (first | assumption | exact Keeps.refl _ _ | (refine Keeps.bumpR ?_ _) | (refine Keeps.put ?_ (by assumption) (by simp only [n_bump, n_put, n_touch, n_kill] at *; omega)))) hE5
      have hN5 := hE5.n
      cases b with
      | true =>
        repeat (first | (refine aw_seq ?_) | (refine aw_reg0 (by simp only [SZ, Nat.reduceAdd]; exact rfl) ?_) | (refine aw_reg (by decide +kernel) (by simp only [SZ, Nat.reduceAdd]; exact rfl) ?_) | (refine aw_regS (by decide +kernel) (by simp only [SZ, Nat.reduceAdd]; exact rfl) ?_) | (refine aw_regN (by decide +kernel) (by simp only [SZ, Nat.reduceAdd]; exact rfl) (by repeat (first | assumption | (refine WF.bump ?_ _))) ?_) | (refine arl_nil ?_) | (refine aw_skip ?_) | (refine aw_block ?_) | (refine aw_exit ?_) | (refine aw_ret ?_) | (refine arl_cons rfl rfl (by simp +decide only [aop, abuiltin, aeval, aintBin, bin_int, aload_bump, SS, reduceIte, reduceCtorEq, f3, hwk]; exact rfl) (by first | rfl | with_reducible assumption) rfl ?_) | (refine arl_none rfl rfl (by simp +decide only [aop, abuiltin, aeval, aintBin, bin_int, aload_bump, SS, reduceIte, reduceCtorEq, f3, hwk]; exact rfl) rfl rfl ?_) | (refine arl_off rfl rfl ?_) | (refine aw_condT (by simp +decide only [aop, abuiltin, aeval, aintBin, bin_int, aload_bump, SS, reduceIte, reduceCtorEq, f3, hwk]; first | done | exact rfl) ?_) | (refine aw_condF (by simp +decide only [aop, abuiltin, aeval, aintBin, bin_int, aload_bump, SS, reduceIte, reduceCtorEq, f3, hwk]; first | done | exact rfl) ?_))
        refine ⟨s.size - (k + 1), by omega, hE.trans (hE5.trans (by repeat (first | exact Keeps.refl _ _ | (refine Keeps.bumpR ?_ _)))), k + 1, by omega, rfl, f0, rfl, fun j hj h => ?_⟩
        by_cases e : j = k
        · subst e; exact hb.1 rfl
        · exact hok j hj (by omega)
      | false =>
        repeat (first | (refine aw_seq ?_) | (refine aw_reg0 (by simp only [SZ, Nat.reduceAdd]; exact rfl) ?_) | (refine aw_reg (by decide +kernel) (by simp only [SZ, Nat.reduceAdd]; exact rfl) ?_) | (refine aw_regS (by decide +kernel) (by simp only [SZ, Nat.reduceAdd]; exact rfl) ?_) | (refine aw_regN (by decide +kernel) (by simp only [SZ, Nat.reduceAdd]; exact rfl) (by repeat (first | assumption | (refine WF.bump ?_ _))) ?_) | (refine arl_nil ?_) | (refine aw_skip ?_) | (refine aw_block ?_) | (refine aw_exit ?_) | (refine aw_ret ?_) | (refine arl_cons rfl rfl (by simp +decide only [aop, abuiltin, aeval, aintBin, bin_int, aload_bump, SS, reduceIte, reduceCtorEq]; exact rfl) (by first | rfl | with_reducible assumption) rfl ?_) | (refine arl_none rfl rfl (by simp +decide only [aop, abuiltin, aeval, aintBin, bin_int, aload_bump, SS, reduceIte, reduceCtorEq]; exact rfl) rfl rfl ?_) | (refine arl_off rfl rfl ?_) | (refine aw_condT (by simp +decide only [aop, abuiltin, aeval, aintBin, bin_int, aload_bump, SS, reduceIte, reduceCtorEq]; first | done | exact rfl) ?_) | (refine aw_condF (by simp +decide only [aop, abuiltin, aeval, aintBin, bin_int, aload_bump, SS, reduceIte, reduceCtorEq]; first | done | exact rfl) ?_))
        refine ⟨.inr rfl, _, rfl, hE.trans (hE5.trans (by repeat (first | exact Keeps.refl _ _ | (refine Keeps.bumpR ?_ _)))), 41, rfl, ?_⟩
        constructor
        · intro h; cases h
        · intro h
          have := hb.2 (h.b _ (by
            have e : s[k]'hlt = s.data[k]'hlt := rfl
            rw [e]
            exact Array.getElem_mem_toList _))
          cases this
    · have hd : decide ((k : Int) < (s.size : Int)) = false := decide_eq_false (by omega)
      repeat (first | (refine aw_seq ?_) | (refine aw_reg0 (by simp only [SZ, Nat.reduceAdd]; exact rfl) ?_) | (refine aw_reg (by decide +kernel) (by simp only [SZ, Nat.reduceAdd]; exact rfl) ?_) | (refine aw_regS (by decide +kernel) (by simp only [SZ, Nat.reduceAdd]; exact rfl) ?_) | (refine aw_regN (by decide +kernel) (by simp only [SZ, Nat.reduceAdd]; exact rfl) (by repeat (first | assumption | (refine WF.bump ?_ _))) ?_) | (refine arl_nil ?_) | (refine aw_skip ?_) | (refine aw_block ?_) | (refine aw_exit ?_) | (refine aw_ret ?_) | (refine arl_cons rfl rfl (by simp +decide only [aop, abuiltin, aeval, aintBin, bin_int, aload_bump, SS, reduceIte, reduceCtorEq, f0, f3, hln, hd]; exact rfl) (by first | rfl | with_reducible assumption) rfl ?_) | (refine arl_none rfl rfl (by simp +decide only [aop, abuiltin, aeval, aintBin, bin_int, aload_bump, SS, reduceIte, reduceCtorEq, f0, f3, hln, hd]; exact rfl) rfl rfl ?_) | (refine arl_off rfl rfl ?_) | (refine aw_condT (by simp +decide only [aop, abuiltin, aeval, aintBin, bin_int, aload_bump, SS, reduceIte, reduceCtorEq, f0, f3, hln, hd]; first | done | exact rfl) ?_) | (refine aw_condF (by simp +decide only [aop, abuiltin, aeval, aintBin, bin_int, aload_bump, SS, reduceIte, reduceCtorEq, f0, f3, hln, hd]; first | done | exact rfl) ?_))
      refine ⟨.inr rfl, _, rfl, hE.trans (by repeat (first | exact Keeps.refl _ _ | (refine Keeps.bumpR ?_ _))), 0, rfl, ?_⟩
      constructor
      · intro _
        refine ⟨by omega, by omega, h1, h2, fun c hc => ?_⟩
        obtain ⟨j, hj, rfl⟩ := List.mem_iff_getElem.1 hc
        exact hok j (by omega) (by omega)
      · intro _; rfl
  · exact ⟨(by repeat (first | exact Keeps.refl _ _ | (refine Keeps.bumpR ?_ _))), 0, by omega, rfl, rfl, rfl, fun j hj h => by omega⟩
theorem path_ok {st : St} (hw : WF st) (t : ByteArray) (h : OkT t.data.toList) (p : Nat) (hp : p < 2147483648) (b : Nat) (hb : b ≤ 4611686018427387904) :
    ACalls Tryd.prog 8 [str t, i32 p, i64 b] st (fun r s' => Ext st s' ∧ r = .tup [str (bs (pathL t.data.toList p b)), .pl (.bool true)]) := by
  refine acalls_of Tryd.func8 rfl (by kernel_rfl) rfl ?_
  have hl1 : (bs (dirL t.data.toList p)).size ≤ 75 := dirL_size h hp
  have hmx : IntKind.i64.max = 9223372036854775807 := by decide
  have hl2 : (bs (fileL b)).size = 24 := by rw [bs_size]; exact fileL_len (by omega)
  have a1 : ∀ t', abin Tryd.prog .add t' (str (bs (dirL t.data.toList p))) (str ⟨#[47]⟩) = some (.string (bs (dirL t.data.toList p ++ [47]))) := by
    intro t'
    simp only [abin, astrBin]
    have e : (⟨#[47]⟩ : ByteArray).size = 1 := rfl
    rw [if_neg (by rw [hmx, e]; omega)]
    rw [← bs_add]
  have a2 : ∀ t', abin Tryd.prog .add t' (str (bs (dirL t.data.toList p ++ [47]))) (str (bs (fileL b))) = some (.string (bs (pathL t.data.toList p b))) := by
    intro t'
    simp only [abin, astrBin]
    have e : (bs (dirL t.data.toList p ++ [47])).size = (bs (dirL t.data.toList p)).size + 1 := by rw [bs_size, bs_size, List.length_append]; rfl
    rw [if_neg (by rw [hmx, hl2, e]; omega), bs_add]
    unfold pathL
    rw [List.append_assoc]
    rfl
  have hln : alen Tryd.prog #[9] [str (bs (fileL b))] = some (i64 24) := by rw [str_len, hl2]; rfl
  have z0 : ((0 : Int) == 0) = true := rfl
  have z24 : ((24 : Int) == 24) = true := rfl
  repeat (first | (refine aw_seq ?_) | (refine aw_reg0 (by simp only [SZ, Nat.reduceAdd]; exact rfl) ?_) | (refine aw_reg (by decide +kernel) (by simp only [SZ, Nat.reduceAdd]; exact rfl) ?_) | (refine aw_regS (by decide +kernel) (by simp only [SZ, Nat.reduceAdd]; exact rfl) ?_) | (refine aw_regN (by decide +kernel) (by simp only [SZ, Nat.reduceAdd]; exact rfl) (by repeat (first | assumption | (refine WF.bump ?_ _))) ?_) | (refine arl_nil ?_) | (refine aw_skip ?_) | (refine aw_block ?_) | (refine aw_exit ?_) | (refine aw_ret ?_) | (refine arl_cons rfl rfl (by simp +decide only [aop, abuiltin, aeval, aintBin, bin_int, aload_bump, SS, reduceIte, reduceCtorEq]; exact rfl) (by first | rfl | with_reducible assumption) rfl ?_) | (refine arl_none rfl rfl (by simp +decide only [aop, abuiltin, aeval, aintBin, bin_int, aload_bump, SS, reduceIte, reduceCtorEq]; exact rfl) rfl rfl ?_) | (refine arl_off rfl rfl ?_) | (refine aw_condT (by simp +decide only [aop, abuiltin, aeval, aintBin, bin_int, aload_bump, SS, reduceIte, reduceCtorEq]; first | done | exact rfl) ?_) | (refine aw_condF (by simp +decide only [aop, abuiltin, aeval, aintBin, bin_int, aload_bump, SS, reduceIte, reduceCtorEq]; first | done | exact rfl) ?_))
  refine arl_call rfl rfl rfl rfl rfl rfl ((dirA t h p hp).wf (by repeat (first | assumption | (refine WF.bump ?_ _) | (refine WF.put ?_ (by simp only [n_bump, n_put, n_touch, n_kill] at *; omega) (by simp only [n_bump, n_put, n_touch, n_kill] at *; omega)))) |>.mono ?_)
  rintro r s1 ⟨hw1, hn1, hE1, rfl⟩
  refine ⟨by first | rfl | with_reducible assumption, ?_⟩
  replace hE1 : Ext st s1 := Keeps.trans (by repeat (first | assumption | exact Keeps.refl _ _ | (refine Keeps.bumpR ?_ _) | (refine Keeps.put ?_ (by assumption) (by simp only [n_bump, n_put, n_touch, n_kill] at *; omega)))) hE1
  have hN1 := hE1.n
  repeat (first | (refine aw_seq ?_) | (refine aw_reg0 (by simp only [SZ, Nat.reduceAdd]; exact rfl) ?_) | (refine aw_reg (by decide +kernel) (by simp only [SZ, Nat.reduceAdd]; exact rfl) ?_) | (refine aw_regS (by decide +kernel) (by simp only [SZ, Nat.reduceAdd]; exact rfl) ?_) | (refine aw_regN (by decide +kernel) (by simp only [SZ, Nat.reduceAdd]; exact rfl) (by repeat (first | assumption | (refine WF.bump ?_ _))) ?_) | (refine arl_nil ?_) | (refine aw_skip ?_) | (refine aw_block ?_) | (refine aw_exit ?_) | (refine aw_ret ?_) | (refine arl_cons rfl rfl (by simp +decide only [aop, abuiltin, aeval, aintBin, bin_int, aload_bump, SS, reduceIte, reduceCtorEq]; exact rfl) (by first | rfl | with_reducible assumption) rfl ?_) | (refine arl_none rfl rfl (by simp +decide only [aop, abuiltin, aeval, aintBin, bin_int, aload_bump, SS, reduceIte, reduceCtorEq]; exact rfl) rfl rfl ?_) | (refine arl_off rfl rfl ?_) | (refine aw_condT (by simp +decide only [aop, abuiltin, aeval, aintBin, bin_int, aload_bump, SS, reduceIte, reduceCtorEq]; first | done | exact rfl) ?_) | (refine aw_condF (by simp +decide only [aop, abuiltin, aeval, aintBin, bin_int, aload_bump, SS, reduceIte, reduceCtorEq]; first | done | exact rfl) ?_))
  refine arl_call rfl rfl rfl rfl rfl rfl ((fileA b hb).wf (by repeat (first | assumption | (refine WF.bump ?_ _) | (refine WF.put ?_ (by simp only [n_bump, n_put, n_touch, n_kill] at *; omega) (by simp only [n_bump, n_put, n_touch, n_kill] at *; omega)))) |>.mono ?_)
  rintro r s2 ⟨hw2, hn2, hE2, rfl⟩
  refine ⟨by first | rfl | with_reducible assumption, ?_⟩
  replace hE2 : Ext s1 s2 := Keeps.trans (by repeat (first | assumption | exact Keeps.refl _ _ | (refine Keeps.bumpR ?_ _) | (refine Keeps.put ?_ (by assumption) (by simp only [n_bump, n_put, n_touch, n_kill] at *; omega)))) hE2
  have hN2 := hE2.n
  repeat (first | (refine aw_seq ?_) | (refine aw_reg0 (by simp only [SZ, Nat.reduceAdd]; exact rfl) ?_) | (refine aw_reg (by decide +kernel) (by simp only [SZ, Nat.reduceAdd]; exact rfl) ?_) | (refine aw_regS (by decide +kernel) (by simp only [SZ, Nat.reduceAdd]; exact rfl) ?_) | (refine aw_regN (by decide +kernel) (by simp only [SZ, Nat.reduceAdd]; exact rfl) (by repeat (first | assumption | (refine WF.bump ?_ _))) ?_) | (refine arl_nil ?_) | (refine aw_skip ?_) | (refine aw_block ?_) | (refine aw_exit ?_) | (refine aw_ret ?_) | (refine arl_cons rfl rfl (by simp +decide only [aop, abuiltin, aeval, aintBin, bin_int, aload_bump, SS, reduceIte, reduceCtorEq, a1, a2, hln, z0, z24]; exact rfl) (by first | rfl | with_reducible assumption) rfl ?_) | (refine arl_none rfl rfl (by simp +decide only [aop, abuiltin, aeval, aintBin, bin_int, aload_bump, SS, reduceIte, reduceCtorEq, a1, a2, hln, z0, z24]; exact rfl) rfl rfl ?_) | (refine arl_off rfl rfl ?_) | (refine aw_condT (by simp +decide only [aop, abuiltin, aeval, aintBin, bin_int, aload_bump, SS, reduceIte, reduceCtorEq, a1, a2, hln, z0, z24]; first | done | exact rfl) ?_) | (refine aw_condF (by simp +decide only [aop, abuiltin, aeval, aintBin, bin_int, aload_bump, SS, reduceIte, reduceCtorEq, a1, a2, hln, z0, z24]; first | done | exact rfl) ?_))
  exact ⟨.inr rfl, _, rfl, (hE1.trans hE2).trans (by repeat (first | exact Keeps.refl _ _ | (refine Keeps.bumpR ?_ _))), rfl⟩
end Go.Proofs.YtjpgpkkbmoehdaaDoor.Ra
