/- Many numbers are read back in their order; a cut is told at a number's beginning: where the numbers are of bulk at most 1048576. -/
import Derived.Test.YthkbnmlelolljaaStmtVintMany
import Derived.Test.YthkbnmlelolljaaPx
import Derived.Test.YthkbnmlelolljaaQx7
namespace Go.Proofs.Ythkbnmlelolljaa.VintMany
open Go.RowKit Go.Proofs.Ythkbnmlelolljaa.Q Go.Proofs.YthkbnmlelolljaaW.PrintWords Go.Proofs.Ythkbnmlelolljaa.Ev Go.Proofs.Ythkbnmlelolljaa.Pv

theorem ones (xs : List Int) : (xs.map fun _ => 1).sum = xs.length := by induction xs with | nil => rfl | cons x r ih => simp [ih]; omega

theorem same_l0 (a b : List Int) (hl : a.length = b.length) (hm : a.length ≤ 9223372036854775806) : ∀ (n i : Nat), n + i = a.length → Ev (fun k => leatlaw02_same.l0 k a b a.length i) (decide (a.drop i = b.drop i)) := by
  intro n
  induction n with
  | zero =>
    intro i hi
    refine succ ?_
    simp only [leatlaw02_same.l0]
    refine neg (by omega) ?_
    rw [List.drop_of_length_le (by omega), List.drop_of_length_le (by omega)]
    exact Ev.now _
  | succ n ih =>
    intro i hi
    have ha : i < a.length := by omega
    have hb : i < b.length := by omega
    refine succ ?_
    simp only [leatlaw02_same.l0]
    refine pos (by omega) (pos (by omega) (pos (by omega) (pos (by omega) ?_)))
    rw [rd_at a i ha, rd_at b i hb, List.drop_eq_getElem_cons ha, List.drop_eq_getElem_cons hb, w64 (by omega) (by omega)]
    by_cases e : a[i] = b[i]
    · refine pos e ?_
      have := ih (i + 1) (by omega)
      rw [decide_eq_decide.2 (show (a[i] :: a.drop (i + 1) = b[i] :: b.drop (i + 1)) ↔ (a.drop (i + 1) = b.drop (i + 1)) from by rw [e, List.cons.injEq]; exact ⟨fun h => h.2, fun h => ⟨rfl, h⟩⟩)]
      exact this
    · refine neg e ?_
      rw [decide_eq_false (show ¬ (a[i] :: a.drop (i + 1) = b[i] :: b.drop (i + 1)) from fun h => e (List.cons.inj h).1)]
      exact Ev.now false
theorem same_ev (a b : List Int) (hm : a.length ≤ 9223372036854775806) : Ev (fun k => leatlaw02_same.f k a b) (decide (a = b)) := by
  unfold leatlaw02_same.f
  by_cases e : a.length = b.length
  · refine pos (by omega) ?_
    simpa using same_l0 a b e hm a.length 0 (by omega)
  · refine neg (by omega) ?_
    have : a ≠ b := fun h => e (by rw [h])
    simpa [this] using Ev.now false

theorem getS_at (p t : List Int) (v : Int) (hv : i64 v) : getS 10 1 (p ++ (put v ++ t)) (p.length : Int) = (zig v, (p.length : Int) + (put v).length, 0) := by
  have hz := zig_range hv.1 hv.2
  unfold getS
  rw [if_neg (by simp; omega), Int.toNat_natCast, List.drop_left' rfl]
  have hs := scan_dig 10 1 (by decide) t 9 (zig v).toNat 0 0 (by omega) (by omega) (Or.inr rfl)
  refine (congrArg (answer (p.length : Int)) hs).trans ?_
  rw [Int.toNat_of_nonneg hz.1]
  simp [answer, put]
theorem getS_short (p : List Int) (v : Int) (hv : i64 v) (j : Nat) (hj : j < (put v).length) : getS 10 1 (p ++ (put v).take j) (p.length : Int) = (0, 0, 1) := by
  have hz := zig_range hv.1 hv.2
  unfold getS
  rw [if_neg (by simp; omega), Int.toNat_natCast, List.drop_left' rfl]
  exact (congrArg (answer (p.length : Int)) (scan_cut 10 1 (by decide) 9 (zig v).toNat 0 0 j (by omega) (by omega) hj)).trans (by simp [answer])

theorem putAll_append (a b : List Int) : putAll (a ++ b) = putAll a ++ putAll b := by simp [putAll]
/-- Reading goes by the numbers that were written, whatever stands behind them. -/
theorem getAll_l0 (r : List Int × Int × Int) : ∀ (ws p t acc : List Int), (∀ v ∈ ws, i64 v) → Pv.bytes (p ++ (putAll ws ++ t)) → (p ++ (putAll ws ++ t)).length ≤ 1000000000000000 → acc.length + ws.length ≤ 17592186044416 →
    Ev (fun k => vint_GetAll.l0 k (p ++ (putAll ws ++ t)) (acc ++ ws) ((p.length : Int) + (putAll ws).length)) r → Ev (fun k => vint_GetAll.l0 k (p ++ (putAll ws ++ t)) acc (p.length : Int)) r := by
  intro ws
  induction ws with
  | nil => intro p t acc _ _ _ _ h; simpa [putAll] using h
  | cons v ws ih =>
    intro p t acc hw hb hl ha h
    have hv := hw v (List.mem_cons_self ..)
    have hpl := put_len hv
    refine succ ?_
    simp only [vint_GetAll.l0]
    have e : p ++ (putAll (v :: ws) ++ t) = p ++ (put v ++ (putAll ws ++ t)) := by rw [putAll_cons, List.append_assoc]
    have e2 : p ++ (put v ++ (putAll ws ++ t)) = (p ++ put v) ++ (putAll ws ++ t) := by rw [List.append_assoc]
    rw [e] at h hb hl ⊢
    refine pos (by simp; omega) (Ev.bind (Get_ev _ _ hb hl) ?_)
    rw [getS_at p _ v hv]
    refine pos rfl (pos (by simp at ha; omega) ?_)
    simp only [zag_zig]
    rw [e2] at h hb hl ⊢
    have := ih (p ++ put v) t (acc ++ [v]) (fun w hw2 => hw w (List.mem_cons_of_mem _ hw2)) hb hl (by simp at ha ⊢; omega) (by
      refine Ev.congr (fun k => ?_) h
      congr 1
      · simp
      · rw [putAll_cons]; simp; omega)
    simpa using this
theorem getAll_ev (ws : List Int) (hw : ∀ v ∈ ws, i64 v) (hl : ws.length ≤ 10000000) : Ev (fun k => vint_GetAll.f k (putAll ws)) (ws, 0, 0) := by
  have hpl := putAll_len hw
  have := getAll_l0 (ws, 0, 0) ws [] [] [] hw (by simpa using putAll_bytes hw) (by simp; omega) (by simp; omega) (by
    refine succ ?_
    simp only [vint_GetAll.l0]
    refine neg (by simp) ?_
    simpa using Ev.now (ws, (0 : Int), (0 : Int)))
  simpa [vint_GetAll.f] using this
theorem getAll_short (ws : List Int) (v : Int) (j : Nat) (hw : ∀ w ∈ ws, i64 w) (hv : i64 v) (hj : j < (put v).length) (hj0 : 0 < j) (hl : ws.length ≤ 10000000) :
    Ev (fun k => vint_GetAll.f k (putAll ws ++ (put v).take j)) ([], ((putAll ws).length : Int), 1) := by
  have hpl := putAll_len hw
  have hvl := put_len hv
  have hb : Pv.bytes (putAll ws ++ (put v).take j) := bytes_append (putAll_bytes hw) (bytes_take (put_bytes hv) _)
  have hlen : (putAll ws ++ (put v).take j).length = (putAll ws).length + j := by rw [List.length_append, List.length_take]; omega
  have := getAll_l0 ([], ((putAll ws).length : Int), 1) ws [] ((put v).take j) [] hw (by simpa using hb) (by rw [List.nil_append]; omega) (by simp; omega) (by
    refine succ ?_
    simp only [vint_GetAll.l0, List.nil_append, List.length_nil]
    rw [show ((0 : Nat) : Int) + ((putAll ws).length : Int) = ((putAll ws).length : Int) by omega]
    refine pos (by omega) (Ev.bind (Get_ev _ _ hb (by omega)) ?_)
    rw [getS_short _ v hv j hj]
    exact neg (by simp) (Ev.now _))
  simpa [vint_GetAll.f] using this

/-- Where a cut falls. -/
theorem cut_at : ∀ (vs : List Int) (c : Nat), c < (putAll vs).length → ∃ ws v rest j, vs = ws ++ v :: rest ∧ j < (put v).length ∧ (putAll vs).take c = putAll ws ++ (put v).take j ∧ c = (putAll ws).length + j := by
  intro vs
  induction vs with
  | nil => intro c h; simp [putAll] at h
  | cons v vs ih =>
    intro c h
    rw [putAll_cons] at h ⊢
    by_cases hc : c < (put v).length
    · exact ⟨[], v, vs, c, rfl, hc, by rw [List.take_append_of_le_length (by omega)]; simp [putAll], by simp [putAll]⟩
    · obtain ⟨ws, u, rest, j, rfl, hj, ht, hcj⟩ := ih (c - (put v).length) (by simp at h; omega)
      refine ⟨v :: ws, u, rest, j, rfl, hj, ?_, ?_⟩
      · rw [List.take_append, List.take_of_length_le (by omega), ht, putAll_cons, List.append_assoc]
      · rw [putAll_cons, List.length_append]; omega

theorem pure : small := by
  intro vs hw c hc hsz
  simp only [ones] at hsz
  have hi : ∀ v ∈ vs, i64 v := fun v hv => wf_i64 (hw v hv)
  obtain ⟨c0, c1⟩ := wf_i64 hc
  have hpl := putAll_len hi
  refine Ev.rounds (r := true) ?_
  unfold leatlaw02_VintMany.f
  refine Ev.bind alive_ev (pos rfl (Ev.bind (PutAll_ev vs hi (by omega)) (Ev.bind (getAll_ev vs hi (by omega)) (pos rfl (pos rfl (Ev.bind (same_ev _ _ (by simp only; omega)) ?_))))))
  simp only [decide_true, Bool.not_true]
  refine succ ?_
  simp only [leatlaw02_VintMany.j0]
  refine neg (by decide) ?_
  by_cases h0 : c < 0
  · refine pos h0 (succ ?_)
    simp only [leatlaw02_VintMany.j1]
    exact pos trivial (Ev.now _)
  · refine neg h0 (succ ?_)
    simp only [leatlaw02_VintMany.j1]
    by_cases h1 : c ≥ ((putAll vs).length : Int)
    · rw [decide_eq_true h1]
      exact pos rfl (Ev.now _)
    · rw [decide_eq_false h1]
      obtain ⟨c, rfl⟩ := Int.eq_ofNat_of_zero_le (show 0 ≤ c by omega)
      refine neg (by decide) (Ev.bind (Piece_ev _ 0 _ (by omega) (by omega) (by omega)) ?_)
      obtain ⟨ws, v, rest, j, rfl, hj, ht, hcj⟩ := cut_at vs c (by omega)
      have hws : ∀ w ∈ ws, i64 w := fun w hw => hi w (by simp [hw])
      have hv : i64 v := hi v (by simp)
      have hwl : ws.length < (ws ++ v :: rest).length := by simp
      have hwp := putAll_len hws
      have ep : piece (putAll (ws ++ v :: rest)) 0 (c : Int) = putAll ws ++ (put v).take j := by unfold piece; rw [Int.toNat_natCast, ht]; simp
      have same_ws : Ev (fun k => leatlaw02_same.f k ws ((ws ++ v :: rest).take ((ws.length : Int)).toNat)) true := by
        have e : (ws ++ v :: rest).take ((ws.length : Int)).toNat = ws := by simp
        rw [e]
        simpa using same_ev ws ws (by omega)
      rw [ep]
      by_cases hj0 : j = 0
      · subst hj0
        rw [List.take_zero, List.append_nil]
        refine Ev.bind (getAll_ev ws hws (by omega)) (pos rfl (pos rfl (pos (by simp only; omega) (pos (by simp only; omega) (pos (by simp only; omega) (Ev.bind same_ws (Ev.now _)))))))
      · refine Ev.bind (getAll_short ws v j hws hv hj (by omega) (by omega)) (neg (by simp) (pos rfl (pos rfl (neg (by simp only; omega) ?_))))
        simp only
        rw [decide_eq_false (show ¬ ((putAll ws).length : Int) < 0 by omega)]
        refine succ ?_
        simp only [leatlaw02_VintMany.j2]
        refine neg (by decide) (Ev.bind (Piece_ev _ 0 _ (by omega) (by omega) (by omega)) ?_)
        have ep2 : piece (putAll (ws ++ v :: rest)) 0 ((putAll ws).length : Int) = putAll ws := by unfold piece; rw [Int.toNat_natCast, putAll_append]; simp
        rw [ep2]
        exact Ev.bind (getAll_ev ws hws (by omega)) (pos rfl (pos (by simp only; omega) (pos (by simp only; omega) (pos (by simp only; omega) (Ev.bind same_ws (Ev.now _))))))

end Go.Proofs.Ythkbnmlelolljaa.VintMany
