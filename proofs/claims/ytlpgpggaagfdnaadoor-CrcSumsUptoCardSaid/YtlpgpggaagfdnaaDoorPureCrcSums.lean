/- Sum of many parts and Update are the reference's, and the parts stay as they were: where what is handed in is of bulk at most 1048576. -/
import Derived.Test.YtlpgpggaagfdnaaDoorStmtCrcSums
import Derived.Test.YtlpgpggaagfdnaaDoorPc
namespace Go.Proofs.YtlpgpggaagfdnaaDoor.CrcSums
open Go.RowKit Go.Proofs.YtlpgpggaagfdnaaDoorW.PrintWords Go.Proofs.YtlpgpggaagfdnaaDoor.Q Go.Proofs.YtlpgpggaagfdnaaDoor.Ev Go.Proofs.YtlpgpggaagfdnaaDoor.Pv Go.Proofs.YtlpgpggaagfdnaaDoor.Cm
theorem ones (xs : List Int) : (xs.map fun _ => 1).sum = xs.length := by induction xs with | nil => rfl | cons x r ih => simp [ih]; omega
theorem bulk (ls : List (List Int)) : (ls.map fun xs => (xs.map fun _ => 1).sum + 1).sum = ls.flatten.length + ls.length := by
  induction ls with
  | nil => rfl
  | cons l r ih => simp only [List.map_cons, List.sum_cons, ones, List.flatten_cons, List.length_append, List.length_cons] at *; omega
theorem len_le {ls : List (List Int)} {l : List Int} (h : l ∈ ls) : l.length ≤ ls.flatten.length := by
  induction ls with
  | nil => cases h
  | cons x r ih =>
    rw [List.flatten_cons, List.length_append]
    rcases List.mem_cons.1 h with rfl | h
    · omega
    · have := ih h; omega
theorem flat_bytes {ls : List (List Int)} (h : rows ls) : Pv.bytes ls.flatten := by
  intro x hx
  obtain ⟨l, hl, hx⟩ := List.mem_flatten.1 hx
  exact h l hl x hx

theorem l1 (ls : List (List Int)) (hl : ls.flatten.length + ls.length ≤ 1048576) : ∀ (n i : Nat), n + i = ls.length → Ev (fun k => leatlaw03_CrcSums.l1 k ls ls ls.length i) true := by
  intro n
  induction n with
  | zero =>
    intro i hi
    refine succ ?_
    simp only [leatlaw03_CrcSums.l1]
    exact neg (by omega) (Ev.now _)
  | succ n ih =>
    intro i hi
    have hx : i < ls.length := by omega
    have := len_le (List.getElem_mem hx)
    refine succ ?_
    simp only [leatlaw03_CrcSums.l1]
    refine pos (by omega) (pos (by omega) (pos (by omega) (pos (by omega) ?_)))
    rw [rdL_at ls i hx, w64 (by omega) (by omega)]
    exact Ev.bind (Same_ev _ _ (by omega)) (pos (by simp) (ih (i + 1) (by omega)))

theorem l0 (ls : List (List Int)) (c : BitVec 32) (hb : rows ls) (hl : ls.flatten.length + ls.length ≤ 1048576) : ∀ (n i : Nat), n + i = ls.length →
    Ev (fun k => leatlaw03_CrcSums.l0 k ls (num c) (ls.take i).flatten (num (crc (ls.take i).flatten)) (ls.take i) ls ls.length i) true := by
  have hfl : ∀ i, (ls.take i).flatten.length ≤ ls.flatten.length := by
    intro i
    have h : ls.flatten = (ls.take i).flatten ++ (ls.drop i).flatten := by rw [← List.flatten_append, List.take_append_drop]
    rw [h, List.length_append]; omega
  have htb : ∀ i, rows (ls.take i) := fun i l h => hb l (List.mem_of_mem_take h)
  intro n
  induction n with
  | zero =>
    intro i hi
    refine succ ?_
    simp only [leatlaw03_CrcSums.l0]
    refine neg (by omega) ?_
    rw [List.take_of_length_le (by omega)]
    refine Ev.bind (rSum_ev _ (flat_bytes hb) (by omega)) (Ev.bind (Sum_ev ls hb (by omega)) (pos rfl (pos rfl ?_)))
    refine Ev.bind (Sum_ev [ls.flatten] (by intro l h; rw [List.mem_singleton.1 h]; exact flat_bytes hb) (by simp)) ?_
    rw [show ([ls.flatten] : List (List Int)).flatten = ls.flatten by simp, show (num (crc ls.flatten) != num (crc ls.flatten)) = false by simp]
    refine succ ?_
    simp only [leatlaw03_CrcSums.j1]
    exact neg (by decide) (l1 ls hl ls.length 0 (by omega))
  | succ n ih =>
    intro i hi
    have hx : i < ls.length := by omega
    have hle := len_le (List.getElem_mem hx)
    have hbx := hb _ (List.getElem_mem hx)
    have hf := hfl i
    have e1 : (ls.take (i + 1)) = ls.take i ++ [ls[i]] := List.take_succ_eq_append_getElem hx
    have e2 : (ls.take (i + 1)).flatten = (ls.take i).flatten ++ ls[i] := by rw [e1, List.flatten_append, List.flatten_cons, List.flatten_nil, List.append_nil]
    have hmk : marks.length = 96 := by simp [marks]
    refine succ ?_
    simp only [leatlaw03_CrcSums.l0]
    rw [rdL_at ls i hx, w64 (by omega) (by omega)]
    refine pos (by omega) (pos (by omega) (pos (by omega) ?_))
    refine Ev.bind (Cat_ev _ _ (by omega)) (Ev.bind (Copy_ev _ (by omega)) (Ev.bind (Update_ev _ _ hbx) (Ev.bind (Wide_ev _ (by omega)) ?_)))
    refine pos (by omega) (pos (by rw [List.length_append]; omega) ?_)
    rw [show (ls[i] ++ marks).take ((ls[i].length : Int)).toNat = ls[i] by simp]
    refine Ev.bind (Update_ev c _ hbx) (Ev.bind (rUpdate_ev c _ hbx (by omega)) (pos rfl (Ev.bind (Intact_ev _ _ (by omega) (by simp; omega)) (pos (by simp) (pos (by simp; omega) ?_)))))
    have e3 : upd (crc (ls.take i).flatten) ls[i] = crc (ls.take (i + 1)).flatten := by rw [e2]; unfold crc; rw [upd_append]
    rw [e3, ← e2, ← e1]
    exact ih (i + 1) (by omega)

theorem pure : small := by
  intro ls hw c hc hsz
  simp only [bulk] at hsz
  have hb : rows ls := fun l hl x hx => wf_u8 (hw l hl x hx)
  have hc2 : num (BitVec.ofInt 32 c) = c := num_ofInt (by simp [Lit.wf, IntKind.min, IntKind.max, IntKind.bits, IntKind.signed] at hc; omega) (by simp [Lit.wf, IntKind.min, IntKind.max, IntKind.bits, IntKind.signed] at hc; omega)
  refine Ev.rounds (r := true) ?_
  unfold leatlaw03_CrcSums.f
  refine Ev.bind alive_ev (pos rfl ?_)
  have := l0 ls (BitVec.ofInt 32 c) hb (by omega) ls.length 0 (by omega)
  have e0 : num (crc []) = 0 := by decide +kernel
  rw [hc2, List.take_zero, List.flatten_nil, e0] at this
  exact this
end Go.Proofs.YtlpgpggaagfdnaaDoor.CrcSums
