/- Plain laws of layer 2's reference: reading. -/
import Derived.Test.YthkbnmlelolljaaPw
namespace Go.Proofs.Ythkbnmlelolljaa.Pv
open Go.RowKit Go.Proofs.YthkbnmlelolljaaW.PrintWords Go.Proofs.Ythkbnmlelolljaa.Q Go.Proofs.Ythkbnmlelolljaa.Ev

/-- What the reference's search for the last byte answers. -/
def ends (at_ : Int) (s : Int × Int × Int) : Int × Int := if s.2.2 = 0 then (at_ + s.2.1 - 1, 0) else (0, s.2.2)

theorem rget_l0 (b : List Int) (a : Nat) (most : Nat) (top : Int) (hm : 2 ≤ most) (hm10 : most ≤ 10) (htop : 0 ≤ top) (htop2 : top < 128) (hb : bytes b) (hl : b.length ≤ 1000000000000000) (ha : a ≤ b.length) :
    ∀ (n i : Nat) (u : Int), n + i + a = b.length → i < most → Ev (fun k => leatref02_get.l0 k b a most top i) (ends a (scan most top i u (b.drop (a + i)))) := by
  intro n
  induction n with
  | zero =>
    intro i u hi him
    refine succ ?_
    simp only [leatref02_get.l0]
    rw [List.drop_of_length_le (by omega), w64 (by omega) (by omega)]
    exact pos (by omega) (pos (by omega) (Ev.now _))
  | succ n ih =>
    intro i u hi him
    have hx : a + i < b.length := by omega
    have hc := hb b[a + i] (List.getElem_mem hx)
    refine succ ?_
    simp only [leatref02_get.l0]
    rw [w64 (x := (b.length : Int) - a) (by omega) (by omega), w64 (x := (a : Int) + i) (by omega) (by omega), w64 (x := (most : Int) - 1) (by omega) (by omega), show (a : Int) + i = ((a + i : Nat) : Int) by omega]
    refine pos (by omega) (neg (by omega) (pos (by omega) (pos (by omega) ?_)))
    rw [rd_at b (a + i) hx, List.drop_eq_getElem_cons hx]
    generalize hcd : b[a + i] = c at *
    simp only [scan]
    have rest : ¬ (i + 1 = most ∧ top < c) → Ev (fun k => leatref02_get.j2 k b a most top i c false) (ends a (if 128 ≤ c then scan most top (i + 1) (u + c % 128 * 128 ^ i) (b.drop (a + i + 1)) else if c = 0 ∧ 0 < i then (0, 0, 20) else (u + c % 128 * 128 ^ i, (i : Int) + 1, 0))) := by
      intro hno
      refine succ ?_
      simp only [leatref02_get.j2]
      rw [w64 (x := (a : Int) + i) (by omega) (by omega), w64 (x := (i : Int) + 1) (by omega) (by omega)]
      refine neg (by decide) ?_
      by_cases h128 : c < 128
      · refine pos h128 ?_
        rw [if_neg (show ¬ 128 ≤ c by omega)]
        by_cases hz : c = 0
        · refine pos hz ?_
          by_cases hi0 : 0 < i
          · refine pos (by omega) ?_
            rw [if_pos ⟨hz, hi0⟩]
            exact Ev.now _
          · refine neg (by omega) ?_
            rw [if_neg (by omega)]
            simp only [ends, if_true]
            rw [show (a : Int) + (i + 1) - 1 = a + i by omega]
            exact Ev.now _
        · refine neg hz ?_
          rw [if_neg (by omega)]
          simp only [ends, if_true]
          rw [show (a : Int) + (i + 1) - 1 = a + i by omega]
          exact Ev.now _
      · refine neg h128 ?_
        rw [if_pos (by omega)]
        exact ih (i + 1) _ (by omega) (by omega)
    by_cases hi1 : i + 1 = most
    · refine pos (by omega) ?_
      by_cases ht : top < c
      · rw [if_pos ⟨hi1, ht⟩, decide_eq_true (show c > top from ht)]
        refine succ ?_
        simp only [leatref02_get.j2]
        exact pos trivial (Ev.now _)
      · rw [if_neg (by omega), decide_eq_false (show ¬ c > top by omega)]
        exact rest (by omega)
    · refine neg (by omega) ?_
      rw [if_neg (by omega)]
      exact rest (by omega)

theorem rget_ev (most : Nat) (top : Int) (hm : 2 ≤ most) (hm10 : most ≤ 10) (htop : 0 ≤ top) (htop2 : top < 128) (b : List Int) (at_ : Int) (hb : bytes b) (hl : b.length ≤ 1000000000000000) :
    Ev (fun k => leatref02_get.f k b at_ most top) (if at_ < 0 ∨ (b.length : Int) < at_ then (0, 3) else ends at_ (scan most top 0 0 (b.drop at_.toNat))) := by
  unfold leatref02_get.f
  by_cases h0 : at_ < 0
  · rw [if_pos (c := at_ < 0 ∨ (b.length : Int) < at_) (Or.inl h0)]
    refine pos h0 (succ ?_)
    simp only [leatref02_get.j0]
    exact pos trivial (Ev.now _)
  · refine neg h0 (succ ?_)
    simp only [leatref02_get.j0]
    by_cases h1 : (b.length : Int) < at_
    · rw [if_pos (c := at_ < 0 ∨ (b.length : Int) < at_) (Or.inr h1), decide_eq_true (show at_ > (b.length : Int) from h1)]
      exact pos rfl (Ev.now _)
    · rw [decide_eq_false (show ¬ at_ > (b.length : Int) from h1), if_neg (c := at_ < 0 ∨ (b.length : Int) < at_) (by omega)]
      refine neg (by decide) ?_
      have := rget_l0 b at_.toNat most top hm hm10 htop htop2 hb hl (by omega) (b.length - at_.toNat) 0 0 (by omega) (by omega)
      rw [Int.toNat_of_nonneg (by omega)] at this
      simpa using this

theorem dig_lt (v : Nat) : ∀ m, v < 128 ^ (m + 1) → v < 128 ^ (dig v).length := by
  intro m
  induction m generalizing v with
  | zero => intro h; rw [dig_small (by omega)]; simpa using h
  | succ m ih =>
    intro h
    by_cases hs : v < 128
    · rw [dig_small hs]; simpa using hs
    · rw [dig_big hs, List.length_cons, Nat.pow_succ]
      have := ih (v / 128) (by rw [Nat.div_lt_iff_lt_mul (by decide), ← Nat.pow_succ]; exact h)
      rwa [Nat.div_lt_iff_lt_mul (by decide)] at this
theorem dig_get : ∀ (m v j : Nat) (hj : j < (dig v).length), v < 128 ^ (m + 1) → (dig v)[j] % 128 = ((v / 128 ^ j % 128 : Nat) : Int) := by
  intro m
  induction m with
  | zero =>
    intro v j hj h
    simp only [dig_small (show v < 128 by omega)] at hj ⊢
    obtain rfl : j = 0 := by simpa using hj
    simp
  | succ m ih =>
    intro v j hj h
    by_cases hs : v < 128
    · simp only [dig_small hs] at hj ⊢
      obtain rfl : j = 0 := by simpa using hj
      simp
    · simp only [dig_big hs] at hj ⊢
      cases j with
      | zero => simp
      | succ j =>
        simp only [List.getElem_cons_succ]
        rw [ih (v / 128) j (by simpa using hj) (by rw [Nat.div_lt_iff_lt_mul (by decide), ← Nat.pow_succ]; exact h), Nat.div_div_eq_div_mul, Nat.pow_succ, Nat.mul_comm 128]

theorem value_l0 (b : List Int) (a v : Nat) (t : List Int) (hl : b.length ≤ 1000000000000000) (hd : b.drop a = dig v ++ t) (ha : a ≤ b.length) (hv : v < 18446744073709551616) :
    ∀ (j : Nat), j ≤ (dig v).length → Ev (fun k => leatref02_value.l0 k b a ((v / 128 ^ j : Nat) : Int) ((a : Int) + j - 1)) (v : Int) := by
  have hlen : b.length - a = (dig v).length + t.length := by
    have := congrArg List.length hd
    simpa using this
  intro j
  induction j with
  | zero =>
    intro hj
    refine succ ?_
    simp only [leatref02_value.l0]
    refine neg (by omega) ?_
    simpa using Ev.now (v : Int)
  | succ j ih =>
    intro hj
    have hx : a + j < b.length := by omega
    refine succ ?_
    simp only [leatref02_value.l0]
    rw [show (a : Int) + ((j + 1 : Nat) : Int) - 1 = ((a + j : Nat) : Int) by omega]
    refine pos (by omega) (pos (by omega) (pos (by omega) ?_))
    have e : b[a + j] = (dig v)[j] := by
      have h1 : (b.drop a)[j]? = some b[a + j] := by rw [List.getElem?_drop, List.getElem?_eq_getElem hx]
      rw [hd, List.getElem?_append_left (by omega), List.getElem?_eq_getElem (by omega)] at h1
      exact (Option.some.inj h1).symm
    have hd0 : 0 ≤ (dig v)[j] := (dig_bytes10 hv _ (List.getElem_mem (by omega))).1
    rw [rd_at b (a + j) hx, e, Int.tmod_eq_emod_of_nonneg hd0, dig_get 9 v j (by omega) (by omega), w64 (by omega) (by omega), show (((a + j : Nat) : Int) - 1) = (a : Int) + j - 1 by omega]
    have hq : v / 128 ^ (j + 1) = v / 128 ^ j / 128 := by rw [Nat.pow_succ, Nat.div_div_eq_div_mul]
    have hb2 : v / 128 ^ j ≤ v := Nat.div_le_self _ _
    rw [hq]
    generalize v / 128 ^ j = q at *
    rw [IntKind.wrap_u64, IntKind.wrap_u64, IntKind.wrap_u64, show (((q / 128 : Nat) : Int) * 128 % 18446744073709551616 + ((q % 128 : Nat) : Int) % 18446744073709551616) % 18446744073709551616 = (q : Int) by omega]
    exact ih (by omega)

theorem value_ev (b : List Int) (a v : Nat) (t : List Int) (hl : b.length ≤ 1000000000000000) (hd : b.drop a = dig v ++ t) (ha : a ≤ b.length) (hv : v < 18446744073709551616) :
    Ev (fun k => leatref02_value.f k b a ((a : Int) + (dig v).length - 1)) (v : Int) := by
  have := value_l0 b a v t hl hd ha hv (dig v).length (Nat.le_refl _)
  rw [Nat.div_eq_of_lt (dig_lt v 9 (by omega))] at this
  exact this

/-- What the reference's readers answer is what the program's answer. -/
theorem rGet_gen (most top : Nat) (hm : 2 ≤ most) (hm10 : most ≤ 10) (htop2 : top < 128) (hfit : (top + 1) * 128 ^ (most - 1) ≤ 18446744073709551616) (b : List Int) (at_ : Int) (hb : bytes b) (hl : b.length ≤ 1000000000000000) (g : Int → Int) (h0 : g 0 = 0) :
    Ev (fun k => (leatref02_get.f k b at_ most top).bind fun bt => if bt.2 = 0 then (leatref02_value.f k b at_ bt.1).bind fun t => (leatref02_Zag.f t).bind fun t2 => some (g t2, wrap64 (bt.1 + 1), (0 : Int)) else some (0, 0, bt.2))
      (g (zag (getS most top b at_).1), (getS most top b at_).2.1, (getS most top b at_).2.2) := by
  have hz : zag 0 = 0 := by decide
  refine Ev.bind (rget_ev most top hm hm10 (by omega) (by omega) b at_ hb hl) ?_
  unfold getS
  by_cases ho : at_ < 0 ∨ (b.length : Int) < at_
  · rw [if_pos ho, if_pos ho]
    refine neg (by decide) ?_
    simp only [hz, h0]
    exact Ev.now _
  · rw [if_neg ho, if_neg ho]
    obtain ⟨a, rfl⟩ := Int.eq_ofNat_of_zero_le (show 0 ≤ at_ by omega)
    rw [Int.toNat_natCast]
    by_cases he : (scan most top 0 0 (b.drop a)).2.2 = 0
    · obtain ⟨v, t, hd, hv, _⟩ := scan_only most top htop2 (b.drop a) (most - 1) 0 0 (bytes_drop hb _) (by omega) he
      have hs := scan_dig most top htop2 t (most - 1) v 0 0 (by omega) hv (Or.inr rfl)
      have hlen : b.length - a = (dig v).length + t.length := by
        have := congrArg List.length hd
        simpa using this
      have h1 := dig_len10 (u := v) (by omega)
      rw [hd, hs]
      have ee : ends (a : Int) (0 + (v : Int) * 128 ^ 0, ((0 : Nat) : Int) + (dig v).length, 0) = ((a : Int) + (dig v).length - 1, 0) := by simp [ends]
      have ea : answer (a : Int) (0 + (v : Int) * 128 ^ 0, ((0 : Nat) : Int) + (dig v).length, 0) = ((v : Int), (a : Int) + (dig v).length, 0) := by simp [answer]
      rw [ee, ea]
      refine pos rfl (Ev.bind (value_ev b a v t hl hd (by omega) (by omega)) (Ev.bind (RZag_ev (u := (v : Int)) (by omega) (by omega)) ?_))
      simp only
      rw [w64 (by omega) (by omega), show (a : Int) + (dig v).length - 1 + 1 = a + (dig v).length by omega]
      exact Ev.now _
    · have ee : ends (a : Int) (scan most top 0 0 (b.drop a)) = (0, (scan most top 0 0 (b.drop a)).2.2) := by simp [ends, he]
      have ea : answer (a : Int) (scan most top 0 0 (b.drop a)) = (0, 0, (scan most top 0 0 (b.drop a)).2.2) := by simp [answer, he]
      rw [ee, ea]
      refine neg he ?_
      simp only [hz, h0]
      exact Ev.now _
theorem rGet_ev (b : List Int) (at_ : Int) (hb : bytes b) (hl : b.length ≤ 1000000000000000) : Ev (fun k => leatref02_Get.f k b at_) (zag (getS 10 1 b at_).1, (getS 10 1 b at_).2.1, (getS 10 1 b at_).2.2) :=
  rGet_gen 10 1 (by decide) (by decide) (by decide) (by decide) b at_ hb hl (fun x => x) rfl
theorem rGet32_ev (b : List Int) (at_ : Int) (hb : bytes b) (hl : b.length ≤ 1000000000000000) : Ev (fun k => leatref02_Get32.f k b at_) (wrap32 (zag (getS 5 15 b at_).1), (getS 5 15 b at_).2.1, (getS 5 15 b at_).2.2) :=
  rGet_gen 5 15 (by decide) (by decide) (by decide) (by decide) b at_ hb hl wrap32 (by unfold wrap32; omega)
end Go.Proofs.Ythkbnmlelolljaa.Pv
