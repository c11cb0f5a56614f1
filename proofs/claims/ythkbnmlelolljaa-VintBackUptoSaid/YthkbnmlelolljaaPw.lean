/- Plain laws of the small helpers that all statements use, and of layer 2's reference. -/
import Derived.Test.YthkbnmlelolljaaPv
namespace Go.Proofs.Ythkbnmlelolljaa.Pv
open Go.RowKit Go.Proofs.YthkbnmlelolljaaW.PrintWords Go.Proofs.Ythkbnmlelolljaa.Q Go.Proofs.Ythkbnmlelolljaa.Ev

theorem RZig_ev {v : Int} (h0 : -9223372036854775808 ≤ v) (h1 : v ≤ 9223372036854775807) : Ev (fun _ => leatref02_Zig.f v) (zig v) := by
  unfold leatref02_Zig.f
  by_cases h : 0 ≤ v
  · refine pos (by omega) (const ?_)
    rw [IntKind.wrap_u64, IntKind.wrap_u64]
    unfold zig
    rw [if_pos h]
    congr 1; omega
  · refine neg (by omega) (const ?_)
    rw [w64 (x := v + 1) (by omega) (by omega), w64 (x := -(v + 1)) (by omega) (by omega), IntKind.wrap_u64, IntKind.wrap_u64, IntKind.wrap_u64]
    unfold zig
    rw [if_neg h]
    congr 1; omega
theorem RZag_ev {u : Int} (h0 : 0 ≤ u) (h1 : u ≤ 18446744073709551615) : Ev (fun _ => leatref02_Zag.f u) (zag u) := by
  unfold leatref02_Zag.f
  rw [Int.tmod_eq_emod_of_nonneg h0, Int.tdiv_eq_ediv_of_nonneg h0, IntKind.wrap_u64, Int.emod_eq_of_lt (a := u / 2) (b := 18446744073709551616) (by omega) (by omega), w64 (x := u / 2) (by omega) (by omega), w64 (x := -(u / 2)) (by omega) (by omega), w64 (x := -(u / 2) - 1) (by omega) (by omega)]
  unfold zag
  by_cases h : u % 2 = 0
  · refine pos h ?_
    rw [if_pos h]; exact Ev.now _
  · refine neg h ?_
    rw [if_neg h]; exact Ev.now _

theorem RPut_l0 : ∀ (m v : Nat) (acc : List Int), v < 128 ^ (m + 1) → v < 18446744073709551616 → acc.length + (m + 1) ≤ 140737488355328 → Ev (fun k => leatref02_Put.l0 k v acc) (acc ++ dig v) := by
  intro m
  induction m with
  | zero =>
    intro v acc hv hv2 ha
    rw [dig_small (by omega)]
    refine succ ?_
    simp only [leatref02_Put.l0]
    refine neg (by omega) (pos (by omega) ?_)
    rw [show (v : Int) % 256 = v by omega]
    exact Ev.now _
  | succ m ih =>
    intro v acc hv hv2 ha
    by_cases hs : v < 128
    · rw [dig_small hs]
      refine succ ?_
      simp only [leatref02_Put.l0]
      refine neg (by omega) (pos (by omega) ?_)
      rw [show (v : Int) % 256 = v by omega]
      exact Ev.now _
    · rw [dig_big hs]
      refine succ ?_
      simp only [leatref02_Put.l0]
      refine pos (by omega) (pos (by omega) ?_)
      rw [Int.tdiv_eq_ediv_of_nonneg (by omega), Int.tmod_eq_emod_of_nonneg (by omega), IntKind.wrap_u64, IntKind.wrap_u64, show (v : Int) / 128 % 18446744073709551616 = ((v / 128 : Nat) : Int) by omega, show ((v : Int) % 128 + 128) % 18446744073709551616 % 256 = ((v % 128 : Nat) : Int) + 128 by omega]
      have := ih (v / 128) (acc ++ [((v % 128 : Nat) : Int) + 128]) (by rw [Nat.div_lt_iff_lt_mul (by decide), ← Nat.pow_succ]; exact hv) (by omega) (by simp; omega)
      simpa using this
theorem RPut_ev (v : Int) (hv : i64 v) : Ev (fun k => leatref02_Put.f k v) (put v) := by
  have hz := zig_range hv.1 hv.2
  refine Ev.bind (RZig_ev hv.1 hv.2) ?_
  have := RPut_l0 9 (zig v).toNat [] (by omega) (by omega) (by simp)
  rw [Int.toNat_of_nonneg hz.1] at this
  simpa [put] using this

theorem Size_l0 : ∀ (m v : Nat) (n : Int), v < 128 ^ (m + 1) → 0 ≤ n → n + m ≤ 1000 → Ev (fun k => vint_Size.l0 k n v) (n - 1 + (dig v).length) := by
  intro m
  induction m with
  | zero =>
    intro v n hv h0 h1
    rw [dig_small (by omega)]
    refine succ ?_
    simp only [vint_Size.l0]
    refine neg (by omega) ?_
    simpa using Ev.now n
  | succ m ih =>
    intro v n hv h0 h1
    by_cases hs : v < 128
    · rw [dig_small hs]
      refine succ ?_
      simp only [vint_Size.l0]
      refine neg (by omega) ?_
      simpa using Ev.now n
    · rw [dig_big hs]
      refine succ ?_
      simp only [vint_Size.l0]
      refine pos (by omega) ?_
      rw [w64 (by omega) (by omega), show (v : Int) / 128 = ((v / 128 : Nat) : Int) by omega]
      have := ih (v / 128) (n + 1) (by rw [Nat.div_lt_iff_lt_mul (by decide), ← Nat.pow_succ]; exact hv) (by omega) (by omega)
      rw [show n - 1 + ((((v % 128 : Nat) : Int) + 128) :: dig (v / 128)).length = n + 1 - 1 + (dig (v / 128)).length by simp only [List.length_cons]; omega]
      exact this
theorem Size_ev (v : Int) (hv : i64 v) : Ev (fun k => vint_Size.f k v) ((put v).length : Int) := by
  have hz := zig_range hv.1 hv.2
  refine Ev.bind (Zig_ev hv.1 hv.2) ?_
  have := Size_l0 9 (zig v).toNat 1 (by omega) (by omega) (by omega)
  rw [Int.toNat_of_nonneg hz.1] at this
  simpa [put] using this

/- copies -/
theorem Copy_l0 (xs : List Int) (hl : xs.length ≤ 140737488355327) : ∀ (n i : Nat) (acc : List Int), n + i = xs.length → acc.length + n ≤ 140737488355328 → Ev (fun k => leatref01_Copy.l0 k xs acc i) (acc ++ xs.drop i) := by
  intro n
  induction n with
  | zero =>
    intro i acc hi ha
    refine succ ?_
    simp only [leatref01_Copy.l0]
    refine neg (by omega) ?_
    rw [List.drop_of_length_le (by omega), List.append_nil]
    exact Ev.now _
  | succ n ih =>
    intro i acc hi ha
    have hxi : i < xs.length := by omega
    refine succ ?_
    simp only [leatref01_Copy.l0]
    refine pos (by omega) (pos (by omega) (pos (by omega) ?_))
    rw [rd_at xs i hxi, w64 (by omega) (by omega), List.drop_eq_getElem_cons hxi, List.append_cons]
    have := ih (i + 1) (acc ++ [xs[i]]) (by omega) (by simp; omega)
    simpa using this
theorem Copy_ev (xs : List Int) (hl : xs.length ≤ 140737488355327) : Ev (fun k => leatref01_Copy.f k xs) xs := by
  have := Copy_l0 xs hl xs.length 0 [] (by omega) (by simp; omega)
  simpa [leatref01_Copy.f] using this
theorem Cat_l0 (xs : List Int) (hl : xs.length ≤ 140737488355327) : ∀ (n i : Nat) (acc : List Int), n + i = xs.length → acc.length + n ≤ 140737488355328 → Ev (fun k => leatref01_Cat.l0 k xs acc i) (acc ++ xs.drop i) := by
  intro n
  induction n with
  | zero =>
    intro i acc hi ha
    refine succ ?_
    simp only [leatref01_Cat.l0]
    refine neg (by omega) ?_
    rw [List.drop_of_length_le (by omega), List.append_nil]
    exact Ev.now _
  | succ n ih =>
    intro i acc hi ha
    have hxi : i < xs.length := by omega
    refine succ ?_
    simp only [leatref01_Cat.l0]
    refine pos (by omega) (pos (by omega) (pos (by omega) ?_))
    rw [rd_at xs i hxi, w64 (by omega) (by omega), List.drop_eq_getElem_cons hxi, List.append_cons]
    have := ih (i + 1) (acc ++ [xs[i]]) (by omega) (by simp; omega)
    simpa using this
theorem Cat_ev (a b : List Int) (hl : a.length + b.length ≤ 140737488355327) : Ev (fun k => leatref01_Cat.f k a b) (a ++ b) := by
  refine Ev.bind (Copy_ev a (by omega)) ?_
  have := Cat_l0 b (by omega) b.length 0 a (by omega) (by omega)
  simpa using this
/-- A piece, cut to what is there. -/
def piece (b : List Int) (lo hi : Int) : List Int := (b.take hi.toNat).drop lo.toNat
theorem Piece_l0 (xs : List Int) (hl : xs.length ≤ 140737488355327) (hi_ : Int) (hh : hi_ ≤ 9223372036854775807) : ∀ (n i : Nat) (acc : List Int), n + i = max xs.length i → acc.length + n ≤ 140737488355328 → (i : Int) ≤ 9223372036854775807 →
    Ev (fun k => leatref01_Piece.l0 k xs hi_ acc i) (acc ++ (xs.take hi_.toNat).drop i) := by
  intro n
  induction n with
  | zero =>
    intro i acc hi ha h64
    refine succ ?_
    simp only [leatref01_Piece.l0]
    refine neg (by omega) ?_
    rw [List.drop_of_length_le (by rw [List.length_take]; omega), List.append_nil]
    exact Ev.now _
  | succ n ih =>
    intro i acc hi ha h64
    have hxi : i < xs.length := by omega
    refine succ ?_
    simp only [leatref01_Piece.l0]
    refine pos (by omega) ?_
    by_cases hlt : (i : Int) < hi_
    · refine pos hlt (pos (by omega) (pos (by omega) ?_))
      have hti : i < (xs.take hi_.toNat).length := by rw [List.length_take]; omega
      rw [rd_at xs i hxi, w64 (by omega) (by omega), List.drop_eq_getElem_cons hti, List.getElem_take, List.append_cons]
      have := ih (i + 1) (acc ++ [xs[i]]) (by omega) (by simp; omega) (by omega)
      simpa using this
    · refine neg hlt ?_
      rw [List.drop_of_length_le (by rw [List.length_take]; omega), List.append_nil]
      exact Ev.now _
theorem Piece_ev (b : List Int) (lo hi : Int) (hl : b.length ≤ 140737488355327) (h0 : lo ≤ 9223372036854775807) (h1 : hi ≤ 9223372036854775807) : Ev (fun k => leatref01_Piece.f k b lo hi) (piece b lo hi) := by
  unfold leatref01_Piece.f piece
  refine bindS ?_
  have key : ∀ (l : Nat), (l : Int) ≤ 9223372036854775807 → Ev (fun k => leatref01_Piece.j0 k b (l : Int) hi []) ((b.take hi.toNat).drop l) := by
    intro l hl2
    refine succ ?_
    simp only [leatref01_Piece.j0]
    have := Piece_l0 b hl hi h1 (b.length - l) l [] (by omega) (by simp; omega) hl2
    simpa using this
  by_cases hn : lo < 0
  · refine pos hn ?_
    rw [show lo.toNat = 0 by omega]
    exact key 0 (by omega)
  · refine neg hn ?_
    have := key lo.toNat (by omega)
    rwa [Int.toNat_of_nonneg (by omega)] at this
/-- Marks behind a row. -/
def marks : List Int := (List.range 96).map fun i : Nat => ((i : Int) * 7 + 13) % 256
theorem Wide_l0 : ∀ (n i : Nat) (acc : List Int), n + i = 96 → acc.length + n ≤ 140737488355328 → Ev (fun k => leatref01_Wide.l0 k acc i) (acc ++ marks.drop i) := by
  have hm : marks.length = 96 := by simp [marks]
  intro n
  induction n with
  | zero =>
    intro i acc hi ha
    refine succ ?_
    simp only [leatref01_Wide.l0]
    refine neg (by omega) ?_
    rw [List.drop_of_length_le (by omega), List.append_nil]
    exact Ev.now _
  | succ n ih =>
    intro i acc hi ha
    have hxi : i < marks.length := by omega
    refine succ ?_
    simp only [leatref01_Wide.l0]
    refine pos (by omega) (pos (by omega) ?_)
    have e : marks[i] = ((i : Int) * 7 + 13) % 256 := by simp [marks]
    rw [w64 (x := (i : Int) * 7) (by omega) (by omega), w64 (x := (i : Int) * 7 + 13) (by omega) (by omega), w64 (by omega) (by omega), List.drop_eq_getElem_cons hxi, List.append_cons, e]
    have := ih (i + 1) (acc ++ [((i : Int) * 7 + 13) % 256]) (by omega) (by simp; omega)
    simpa using this
theorem Wide_ev (xs : List Int) (hl : xs.length ≤ 140737488355200) : Ev (fun k => leatref01_Wide.f k xs) (xs ++ marks) := by
  refine Ev.bind (Copy_ev xs (by omega)) ?_
  have := Wide_l0 96 0 xs (by omega) (by omega)
  simpa using this
theorem Intact_ev (w xs : List Int) (hl : xs.length ≤ 140737488355200) (hw : w.length ≤ 9223372036854775806) : Ev (fun k => leatref01_Intact.f k w xs) (decide (w = xs ++ marks)) :=
  Ev.bind (Wide_ev xs hl) (Ev.bind (Same_ev w _ hw) (Ev.now _))
end Go.Proofs.Ythkbnmlelolljaa.Pv
