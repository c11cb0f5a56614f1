/- Plain laws of the folded numbers: what the printed functions of layer 2 come to. -/
import Derived.Test.YthkbnmlelolljaaEv
import Derived.Test.YthkbnmlelolljaaQx1
import Derived.Test.YthkbnmlelolljaaQx2
import Derived.Test.YthkbnmlelolljaaQx3
import Derived.Test.YthkbnmlelolljaaQx4
import Derived.Test.YthkbnmlelolljaaQx5
namespace Go.Proofs.Ythkbnmlelolljaa.Pv
open Go.RowKit Go.Proofs.YthkbnmlelolljaaW.PrintWords Go.Proofs.Ythkbnmlelolljaa.Q Go.Proofs.Ythkbnmlelolljaa.Ev

def zig (v : Int) : Int := if 0 ≤ v then 2 * v else -2 * v - 1
def zag (u : Int) : Int := if u % 2 = 0 then u / 2 else -(u / 2) - 1
theorem zag_zig (v : Int) : zag (zig v) = v := by unfold zag zig; split <;> split <;> omega
theorem zig_zag (u : Int) (h : 0 ≤ u) : zig (zag u) = u := by unfold zag zig; split <;> split <;> omega

theorem Zig_eq {v : Int} (h0 : -9223372036854775808 ≤ v) (h1 : v ≤ 9223372036854775807) : vint_Zig.f v = some (zig v) := by
  unfold vint_Zig.f zig
  by_cases h : 0 ≤ v
  · rw [if_pos h, show v / 9223372036854775808 = 0 by omega, show IntKind.u64.wrap 0 = 0 from rfl, IntKind.wrap_u64, IntKind.wrap_u64, show (v % 18446744073709551616 * 2) % 18446744073709551616 = 2 * v by omega, xor_u64_zero (by omega) (by omega)]
  · rw [if_neg h, show v / 9223372036854775808 = -1 by omega, show IntKind.u64.wrap (-1) = 18446744073709551615 from rfl, IntKind.wrap_u64, IntKind.wrap_u64, show (v % 18446744073709551616 * 2) % 18446744073709551616 = 2 * v + 18446744073709551616 by omega, xor_u64_ones (by omega) (by omega)]
    congr 1; omega
theorem zig_range {v : Int} (h0 : -9223372036854775808 ≤ v) (h1 : v ≤ 9223372036854775807) : 0 ≤ zig v ∧ zig v ≤ 18446744073709551615 := by unfold zig; split <;> omega
theorem zag_range {u : Int} (h0 : 0 ≤ u) (h1 : u ≤ 18446744073709551615) : -9223372036854775808 ≤ zag u ∧ zag u ≤ 9223372036854775807 := by unfold zag; split <;> omega

theorem Zag_eq {u : Int} (h0 : 0 ≤ u) (h1 : u ≤ 18446744073709551615) : vint_Zag.f u = some (zag u) := by
  unfold vint_Zag.f zag
  rw [and_u64_one h0 h1, w64 (x := u % 2) (by omega) (by omega), w64 (x := u / 2) (by omega) (by omega), w64 (x := -(u % 2)) (by omega) (by omega)]
  by_cases h : u % 2 = 0
  · rw [if_pos h, h, show -(0 : Int) = 0 from rfl, xor_i64_zero (by omega) (by omega)]
  · rw [if_neg h, show u % 2 = 1 by omega, xor_i64_ones (by omega) (by omega)]
    congr 1; omega

theorem Zig_ev {v : Int} (h0 : -9223372036854775808 ≤ v) (h1 : v ≤ 9223372036854775807) : Ev (fun _ => vint_Zig.f v) (zig v) := const (Zig_eq h0 h1)
theorem Zag_ev {u : Int} (h0 : 0 ≤ u) (h1 : u ≤ 18446744073709551615) : Ev (fun _ => vint_Zag.f u) (zag u) := const (Zag_eq h0 h1)

theorem rd_at (xs : List Int) (i : Nat) (h : i < xs.length) : rd xs i = xs[i] := by
  unfold rd; simp [List.getD_eq_getElem?_getD, h]

/-- Are two rows the same? -/
theorem Same_l0 (a b : List Int) (hl : a.length = b.length) (hm : a.length ≤ 9223372036854775806) : ∀ (n i : Nat), n + i = a.length → Ev (fun k => leatref01_Same.l0 k a b i) (decide (a.drop i = b.drop i)) := by
  intro n
  induction n with
  | zero =>
    intro i hi
    refine succ ?_
    simp only [leatref01_Same.l0]
    refine neg (by omega) ?_
    rw [List.drop_of_length_le (by omega), List.drop_of_length_le (by omega)]
    exact Ev.now _
  | succ n ih =>
    intro i hi
    have ha : i < a.length := by omega
    have hb : i < b.length := by omega
    refine succ ?_
    simp only [leatref01_Same.l0]
    refine pos (by omega) (pos (by omega) (pos (by omega) ?_))
    rw [rd_at a i ha, rd_at b i hb, List.drop_eq_getElem_cons ha, List.drop_eq_getElem_cons hb, w64 (by omega) (by omega)]
    by_cases e : a[i] = b[i]
    · refine pos e ?_
      have := ih (i + 1) (by omega)
      rw [decide_eq_decide.2 (show (a[i] :: a.drop (i + 1) = b[i] :: b.drop (i + 1)) ↔ (a.drop (i + 1) = b.drop (i + 1)) from by rw [e, List.cons.injEq]; exact ⟨fun h => h.2, fun h => ⟨rfl, h⟩⟩)]
      exact this
    · refine neg e ?_
      rw [decide_eq_false (show ¬ (a[i] :: a.drop (i + 1) = b[i] :: b.drop (i + 1)) from fun h => e (List.cons.inj h).1)]
      exact Ev.now false
theorem Same_ev (a b : List Int) (hm : a.length ≤ 9223372036854775806) : Ev (fun k => leatref01_Same.f k a b) (decide (a = b)) := by
  unfold leatref01_Same.f
  by_cases e : a.length = b.length
  · refine pos (by omega) ?_
    simpa using Same_l0 a b e hm a.length 0 (by omega)
  · refine neg (by omega) ?_
    have : a ≠ b := fun h => e (by rw [h])
    simpa [this] using Ev.now false


/-- The bytes of a folded number. -/
def dig (u : Nat) : List Int := if u < 128 then [(u : Int)] else (((u % 128 : Nat) : Int) + 128) :: dig (u / 128)
termination_by u
decreasing_by omega
theorem dig_small {u : Nat} (h : u < 128) : dig u = [(u : Int)] := by rw [dig, if_pos h]
theorem dig_big {u : Nat} (h : ¬ u < 128) : dig u = (((u % 128 : Nat) : Int) + 128) :: dig (u / 128) := by rw [dig, if_neg h]
theorem dig_len : ∀ (m u : Nat), u < 128 ^ (m + 1) → 1 ≤ (dig u).length ∧ (dig u).length ≤ m + 1 := by
  intro m
  induction m with
  | zero => intro u h; rw [dig_small (by omega)]; simp
  | succ m ih =>
    intro u h
    by_cases hs : u < 128
    · rw [dig_small hs]; simp
    · rw [dig_big hs]
      have := ih (u / 128) (by rw [Nat.div_lt_iff_lt_mul (by decide), ← Nat.pow_succ]; exact h)
      simp only [List.length_cons]
      omega
theorem dig_len10 {u : Nat} (h : u < 18446744073709551616) : 1 ≤ (dig u).length ∧ (dig u).length ≤ 10 := dig_len 9 u (by omega)

/-- Reading digit by digit: the value, how many bytes, the error. -/
def scan (most : Nat) (top : Int) : Nat → Int → List Int → Int × Int × Int
  | _, _, [] => (0, 0, 1)
  | i, u, c :: r => if i + 1 = most ∧ top < c then (0, 0, 21) else if 128 ≤ c then scan most top (i + 1) (u + c % 128 * 128 ^ i) r else if c = 0 ∧ 0 < i then (0, 0, 20) else (u + c % 128 * 128 ^ i, (i : Int) + 1, 0)
/-- What a reader at place at answers. -/
def answer (at_ : Int) (s : Int × Int × Int) : Int × Int × Int := if s.2.2 = 0 then (s.1, at_ + s.2.1, 0) else (0, 0, s.2.2)

theorem or_shl {i : Nat} {u c : Int} (hi : i ≤ 9) (hu0 : 0 ≤ u) (hu : u < 128 ^ i) (hc0 : 0 ≤ c) (hc : c ≤ 255) (h9 : i = 9 → c % 128 ≤ 1) :
    Go.bits .or .u64 u (shl .u64 (IntKind.u64.wrap (Go.bits .and .u8 c 127)) (wrap64 (7 * (i : Int)))) = u + c % 128 * 128 ^ i := by
  rw [and_u8_127 hc0 hc, w64 (by omega) (by omega), IntKind.wrap_u64, Int.emod_eq_of_lt (by omega) (by omega)]
  unfold shl
  rw [show min (7 * (i : Int)).toNat IntKind.u64.bits = 7 * i from by simp [IntKind.bits]; omega]
  have hp : (2 : Int) ^ (7 * i) = 128 ^ i := by rw [Int.pow_mul]; rfl
  have hb : c % 128 * 128 ^ i ≤ 18446744073709551615 ∧ (128 : Int) ^ i ≤ 9223372036854775808 := by
    have : i = 0 ∨ i = 1 ∨ i = 2 ∨ i = 3 ∨ i = 4 ∨ i = 5 ∨ i = 6 ∨ i = 7 ∨ i = 8 ∨ i = 9 := by omega
    rcases this with rfl | rfl | rfl | rfl | rfl | rfl | rfl | rfl | rfl | rfl <;> first | omega | (have := h9 rfl; omega)
  have h0 : 0 ≤ c % 128 * 128 ^ i := Int.mul_nonneg (by omega) (by rw [← hp]; exact Int.le_of_lt (Int.pow_pos (by decide)))
  rw [IntKind.wrap_u64, hp, Int.emod_eq_of_lt h0 (by omega)]
  exact or_u64_high (7 * i) (by omega) hu0 (by rw [hp]; exact hu) h0 (by rw [hp]; exact Int.mul_emod_left _ _) hb.1

theorem pow_step (i : Nat) (u c : Int) (hu0 : 0 ≤ u) (hu : u < 128 ^ i) : 0 ≤ u + c % 128 * 128 ^ i ∧ u + c % 128 * 128 ^ i < 128 ^ (i + 1) := by
  have hp : (0 : Int) < 128 ^ i := Int.pow_pos (by decide)
  have h1 : c % 128 * 128 ^ i ≤ 127 * 128 ^ i := Int.mul_le_mul_of_nonneg_right (by omega) (Int.le_of_lt hp)
  have h0 : 0 ≤ c % 128 * 128 ^ i := Int.mul_nonneg (by omega) (Int.le_of_lt hp)
  rw [Int.pow_succ]
  omega

def bytes (l : List Int) : Prop := ∀ x ∈ l, 0 ≤ x ∧ x ≤ 255

theorem read_l0 (at_ : Int) (most : Nat) (top : Int) (hm : 2 ≤ most) (hm10 : most ≤ 10) (htop : 0 ≤ top) (htop2 : top < 128) (h10 : most = 10 → top = 1) (xs : List Int) (hb : bytes xs) (hat0 : 0 ≤ at_) (hat1 : at_ + xs.length ≤ 9223372036854775000) :
    ∀ (n i : Nat) (u : Int), n + i = xs.length → i < most → 0 ≤ u → u < 128 ^ i → Ev (fun k => vint_read.l0 k at_ most top u xs xs.length i) (answer at_ (scan most top i u (xs.drop i))) := by
  intro n
  induction n with
  | zero =>
    intro i u hi him hu0 hu
    refine succ ?_
    simp only [vint_read.l0]
    refine neg (by omega) ?_
    rw [List.drop_of_length_le (by omega)]
    exact Ev.now _
  | succ n ih =>
    intro i u hi him hu0 hu
    have hx : i < xs.length := by omega
    have hc := hb xs[i] (List.getElem_mem hx)
    refine succ ?_
    simp only [vint_read.l0]
    refine pos (by omega) (pos (by omega) (pos (by omega) ?_))
    rw [rd_at xs i hx, List.drop_eq_getElem_cons hx, w64 (by omega) (by omega)]
    generalize hcd : xs[i] = c at *
    simp only [scan]
    have rest : ¬ (i + 1 = most ∧ top < c) → Ev (fun k => vint_read.j2 k at_ most top u i c xs xs.length i false) (answer at_ (if 128 ≤ c then scan most top (i + 1) (u + c % 128 * 128 ^ i) (xs.drop (i + 1)) else if c = 0 ∧ 0 < i then (0, 0, 20) else (u + c % 128 * 128 ^ i, (i : Int) + 1, 0))) := by
      intro hno
      refine succ ?_
      simp only [vint_read.j2]
      have h9 : i = 9 → c % 128 ≤ 1 := by intro h; have := h10 (by omega); omega
      rw [or_shl (by omega) hu0 hu hc.1 hc.2 h9]
      refine neg (by decide) (pos (by rw [w64 (by omega) (by omega)]; omega) ?_)
      by_cases h128 : 128 ≤ c
      · rw [if_pos h128]
        refine pos h128 ?_
        have hp := pow_step i u c hu0 hu
        rw [w64 (by omega) (by omega)]
        exact ih (i + 1) _ (by omega) (by omega) hp.1 hp.2
      · rw [if_neg h128]
        refine neg (by omega) ?_
        rw [w64 (x := at_ + i) (by omega) (by omega), w64 (by omega) (by omega)]
        by_cases hz : c = 0
        · refine pos hz ?_
          by_cases hi0 : 0 < i
          · refine pos (by omega) ?_
            rw [if_pos ⟨hz, hi0⟩]
            exact Ev.now _
          · refine neg (by omega) ?_
            rw [if_neg (by omega)]
            simp only [answer, if_true, Int.add_assoc]
            exact Ev.now _
        · refine neg hz ?_
          rw [if_neg (by omega)]
          simp only [answer, if_true, Int.add_assoc]
          exact Ev.now _
    by_cases hi1 : i + 1 = most
    · refine pos (by omega) ?_
      by_cases ht : top < c
      · rw [if_pos ⟨hi1, ht⟩, decide_eq_true ht]
        refine succ ?_
        simp only [vint_read.j2]
        refine pos trivial ?_
        exact Ev.now _
      · rw [if_neg (by omega), decide_eq_false (by omega)]
        exact rest (by omega)
    · refine neg (by omega) ?_
      rw [if_neg (by omega)]
      exact rest (by omega)

/-- What Get answers, before it is unfolded. -/
def getS (most : Nat) (top : Int) (b : List Int) (at_ : Int) : Int × Int × Int := if at_ < 0 ∨ (b.length : Int) < at_ then (0, 0, 3) else answer at_ (scan most top 0 0 (b.drop at_.toNat))

theorem bytes_drop {b : List Int} (hb : bytes b) (n : Nat) : bytes (b.drop n) := fun x hx => hb x (List.mem_of_mem_drop hx)
theorem bytes_take {b : List Int} (hb : bytes b) (n : Nat) : bytes (b.take n) := fun x hx => hb x (List.mem_of_mem_take hx)
theorem bytes_append {a b : List Int} (ha : bytes a) (hb : bytes b) : bytes (a ++ b) := fun x hx => (List.mem_append.1 hx).elim (ha x) (hb x)

theorem read_ev (most : Nat) (top : Int) (hm : 2 ≤ most) (hm10 : most ≤ 10) (htop : 0 ≤ top) (htop2 : top < 128) (h10 : most = 10 → top = 1) (b : List Int) (at_ : Int) (hb : bytes b) (hl : b.length ≤ 1000000000000000) :
    Ev (fun k => vint_read.f k b at_ most top) (getS most top b at_) := by
  unfold vint_read.f getS
  by_cases h0 : at_ < 0
  · rw [if_pos (Or.inl h0)]
    refine pos h0 (succ ?_)
    simp only [vint_read.j0]
    exact pos trivial (Ev.now _)
  · refine neg h0 (succ ?_)
    simp only [vint_read.j0]
    by_cases h1 : (b.length : Int) < at_
    · rw [if_pos (Or.inr h1), decide_eq_true (show at_ > (b.length : Int) from h1)]
      exact pos rfl (Ev.now _)
    · rw [decide_eq_false (show ¬ at_ > (b.length : Int) from h1)]
      refine neg (by decide) (pos (by omega) (pos (by omega) ?_))
      rw [if_neg (by omega)]
      have hlen : (b.drop at_.toNat).length = b.length - at_.toNat := List.length_drop
      have := read_l0 at_ most top hm hm10 htop htop2 h10 (b.drop at_.toNat) (bytes_drop hb _) (by omega) (by omega) (b.drop at_.toNat).length 0 0 (by omega) (by omega) (by omega) (by simp)
      simpa using this

theorem scan_range (most : Nat) (top : Int) (htop : 0 ≤ top) (htop2 : top < 128) : ∀ (l : List Int) (i d : Nat) (u : Int), bytes l → i + d + 1 = most → 0 ≤ u → u < 128 ^ i → 0 ≤ (scan most top i u l).1 ∧ (scan most top i u l).1 < (top + 1) * 128 ^ (most - 1) := by
  intro l
  induction l with
  | nil =>
    intro i d u hb hd hu0 hu
    simp only [scan]
    exact ⟨by omega, Int.mul_pos (by omega) (Int.pow_pos (by decide))⟩
  | cons c r ih =>
    intro i d u hb hd hu0 hu
    have hc := hb c (List.mem_cons_self ..)
    have hP : (0 : Int) < (top + 1) * 128 ^ (most - 1) := Int.mul_pos (by omega) (Int.pow_pos (by decide))
    have hps := pow_step i u c hu0 hu
    simp only [scan]
    split
    · exact ⟨by simp, hP⟩
    · split
      · cases d with
        | zero => exfalso; omega
        | succ d => exact ih (i + 1) d _ (fun x hx => hb x (List.mem_cons_of_mem _ hx)) (by omega) hps.1 hps.2
      · split
        · exact ⟨by simp, hP⟩
        · refine ⟨hps.1, ?_⟩
          show u + c % 128 * 128 ^ i < (top + 1) * 128 ^ (most - 1)
          by_cases hi : i + 1 = most
          · rw [show most - 1 = i by omega]
            have hp : (0 : Int) < 128 ^ i := Int.pow_pos (by decide)
            have h1 : c % 128 * 128 ^ i ≤ top * 128 ^ i := Int.mul_le_mul_of_nonneg_right (by omega) (Int.le_of_lt hp)
            rw [Int.add_mul]
            omega
          · refine Int.lt_of_lt_of_le hps.2 ?_
            have h1 : (128 : Int) ^ (i + 1) ≤ 128 ^ (most - 1) := by exact_mod_cast Nat.pow_le_pow_right (by decide) (by omega)
            have h2 : (0 : Int) < 128 ^ (most - 1) := Int.pow_pos (by decide)
            have h3 : (0 : Int) ≤ top * 128 ^ (most - 1) := Int.mul_nonneg htop (Int.le_of_lt h2)
            rw [Int.add_mul]
            omega

theorem getS_range (most : Nat) (top : Int) (hm : 1 ≤ most) (htop : 0 ≤ top) (htop2 : top < 128) (b : List Int) (at_ : Int) (hb : bytes b) : 0 ≤ (getS most top b at_).1 ∧ (getS most top b at_).1 < (top + 1) * 128 ^ (most - 1) := by
  have hP : (0 : Int) < (top + 1) * 128 ^ (most - 1) := Int.mul_pos (by omega) (Int.pow_pos (by decide))
  unfold getS
  split
  · exact ⟨by simp, hP⟩
  · unfold answer
    split
    · exact scan_range most top htop htop2 _ 0 (most - 1) 0 (bytes_drop hb _) (by omega) (by omega) (by simp)
    · exact ⟨by simp, hP⟩

theorem Get_ev (b : List Int) (at_ : Int) (hb : bytes b) (hl : b.length ≤ 1000000000000000) : Ev (fun k => vint_Get.f k b at_) (zag (getS 10 1 b at_).1, (getS 10 1 b at_).2.1, (getS 10 1 b at_).2.2) := by
  unfold vint_Get.f
  refine Ev.bind (read_ev 10 1 (by decide) (by decide) (by decide) (by decide) (fun _ => rfl) b at_ hb hl) ?_
  have := getS_range 10 1 (by decide) (by decide) (by decide) b at_ hb
  exact Ev.bind (Zag_ev this.1 (by omega)) (Ev.now _)
theorem Get32_ev (b : List Int) (at_ : Int) (hb : bytes b) (hl : b.length ≤ 1000000000000000) : Ev (fun k => vint_Get32.f k b at_) (wrap32 (zag (getS 5 15 b at_).1), (getS 5 15 b at_).2.1, (getS 5 15 b at_).2.2) := by
  unfold vint_Get32.f
  refine Ev.bind (read_ev 5 15 (by decide) (by decide) (by decide) (by decide) (fun h => by omega) b at_ hb hl) ?_
  have := getS_range 5 15 (by decide) (by decide) (by decide) b at_ hb
  exact Ev.bind (Zag_ev this.1 (by omega)) (Ev.now _)

/-- What was written is read. -/
theorem scan_dig (most : Nat) (top : Nat) (htop2 : top < 128) (t : List Int) : ∀ (d v i : Nat) (u : Int), i + d + 1 = most → v < (top + 1) * 128 ^ d → (v ≠ 0 ∨ i = 0) →
    scan most top i u (dig v ++ t) = (u + v * 128 ^ i, (i : Int) + (dig v).length, 0) := by
  intro d
  induction d with
  | zero =>
    intro v i u hd hv h0
    rw [dig_small (by omega)]
    simp only [List.cons_append, List.nil_append, scan]
    rw [if_neg (by omega), if_neg (by omega), if_neg (by omega), Int.emod_eq_of_lt (by omega) (by omega)]
    simp
  | succ d ih =>
    intro v i u hd hv h0
    by_cases hs : v < 128
    · rw [dig_small hs]
      simp only [List.cons_append, List.nil_append, scan]
      rw [if_neg (by omega), if_neg (by omega), if_neg (by omega), Int.emod_eq_of_lt (by omega) (by omega)]
      simp
    · rw [dig_big hs]
      simp only [List.cons_append, scan]
      rw [if_neg (by omega), if_pos (by omega), ih (v / 128) (i + 1) _ (by omega) (by rw [Nat.div_lt_iff_lt_mul (by decide), Nat.mul_assoc, ← Nat.pow_succ]; exact hv) (by omega)]
      have e : ((v % 128 : Nat) : Int) + 128 = (v : Int) % 128 + 128 := by omega
      have e2 : (((v % 128 : Nat) : Int) + 128) % 128 = (v : Int) % 128 := by omega
      rw [e2, Int.pow_succ]
      simp only [List.length_cons]
      refine Prod.ext ?_ (Prod.ext ?_ rfl)
      · show u + (v : Int) % 128 * 128 ^ i + ((v / 128 : Nat) : Int) * (128 ^ i * 128) = u + v * 128 ^ i
        have h2 : (v : Int) = (v : Int) % 128 + ((v / 128 : Nat) : Int) * 128 := by omega
        generalize ((v / 128 : Nat) : Int) = q at *
        generalize (v : Int) % 128 = m at *
        rw [h2, Int.add_mul, Int.add_assoc, Int.mul_assoc, Int.mul_comm (128 ^ i) 128]
      · show ((i + 1 : Nat) : Int) + ((dig (v / 128)).length : Int) = (i : Int) + (((dig (v / 128)).length + 1 : Nat) : Int)
        omega

/-- A number that is too wide. -/
theorem scan_wide (most : Nat) (top : Nat) (htop2 : top < 128) (t : List Int) : ∀ (d v i : Nat) (u : Int), i + d + 1 = most → (top + 1) * 128 ^ d ≤ v →
    scan most top i u (dig v ++ t) = (0, 0, 21) := by
  intro d
  induction d with
  | zero =>
    intro v i u hd hv
    by_cases hs : v < 128
    · rw [dig_small hs]
      simp only [List.cons_append, List.nil_append, scan]
      rw [if_pos (by omega)]
    · rw [dig_big hs]
      simp only [List.cons_append, scan]
      rw [if_pos (by omega)]
  | succ d ih =>
    intro v i u hd hv
    have h128 : 128 ≤ v := by
      refine Nat.le_trans ?_ hv
      rw [Nat.pow_succ]
      have : 1 ≤ (top + 1) * 128 ^ d := Nat.mul_pos (by omega) (Nat.pow_pos (by decide))
      calc 128 = 1 * 128 := rfl
        _ ≤ (top + 1) * 128 ^ d * 128 := Nat.mul_le_mul_right _ this
        _ = (top + 1) * (128 ^ d * 128) := Nat.mul_assoc ..
    rw [dig_big (by omega)]
    simp only [List.cons_append, scan]
    rw [if_neg (by omega), if_pos (by omega)]
    refine ih (v / 128) (i + 1) _ (by omega) ?_
    rw [Nat.le_div_iff_mul_le (by decide), Nat.mul_assoc, ← Nat.pow_succ]
    exact hv

/-- A beginning of what was written ends too early. -/
theorem scan_cut (most : Nat) (top : Nat) (htop2 : top < 128) : ∀ (d v i : Nat) (u : Int) (j : Nat), i + d + 1 = most → v < (top + 1) * 128 ^ d → j < (dig v).length →
    scan most top i u ((dig v).take j) = (0, 0, 1) := by
  intro d
  induction d with
  | zero =>
    intro v i u j hd hv hj
    rw [dig_small (by omega)] at hj ⊢
    obtain rfl : j = 0 := by simpa using hj
    simp [scan]
  | succ d ih =>
    intro v i u j hd hv hj
    by_cases hs : v < 128
    · rw [dig_small hs] at hj ⊢
      obtain rfl : j = 0 := by simpa using hj
      simp [scan]
    · rw [dig_big hs] at hj ⊢
      cases j with
      | zero => simp [scan]
      | succ j =>
        simp only [List.take_succ_cons, scan]
        rw [if_neg (by omega), if_pos (by omega)]
        exact ih (v / 128) (i + 1) _ j (by omega) (by rw [Nat.div_lt_iff_lt_mul (by decide), Nat.mul_assoc, ← Nat.pow_succ]; exact hv) (by simpa using hj)

/-- What is read is what was written. -/
theorem scan_only (most : Nat) (top : Nat) (htop2 : top < 128) : ∀ (l : List Int) (d i : Nat) (u : Int), bytes l → i + d + 1 = most → (scan most top i u l).2.2 = 0 →
    ∃ v t, l = dig v ++ t ∧ v < (top + 1) * 128 ^ d ∧ (v ≠ 0 ∨ i = 0) := by
  intro l
  induction l with
  | nil => intro d i u hb hd h; simp [scan] at h
  | cons c r ih =>
    intro d i u hb hd h
    have hc := hb c (List.mem_cons_self ..)
    simp only [scan] at h
    split at h
    · simp at h
    · rename_i hn
      split at h
      · rename_i h128
        cases d with
        | zero => exfalso; omega
        | succ d =>
          obtain ⟨v, t, rfl, hv, h0⟩ := ih d (i + 1) _ (fun x hx => hb x (List.mem_cons_of_mem _ hx)) (by omega) h
          refine ⟨c.toNat - 128 + 128 * v, t, ?_, ?_, by omega⟩
          · rw [dig_big (u := c.toNat - 128 + 128 * v) (by omega), show (c.toNat - 128 + 128 * v) / 128 = v by omega, List.cons_append]
            congr 1
            omega
          · rw [Nat.pow_succ, ← Nat.mul_assoc]
            omega
      · split at h
        · simp at h
        · rename_i h3
          refine ⟨c.toNat, r, ?_, ?_, by omega⟩
          · rw [dig_small (by omega), Int.toNat_of_nonneg hc.1]; rfl
          · by_cases hi : i + 1 = most
            · obtain rfl : d = 0 := by omega
              omega
            · cases d with
              | zero => exfalso; omega
              | succ d =>
                have : 1 * 128 ≤ (top + 1) * 128 ^ d * 128 := Nat.mul_le_mul_right _ (Nat.mul_pos (by omega) (Nat.pow_pos (by decide)))
                rw [Nat.pow_succ, ← Nat.mul_assoc]
                omega

/- writing -/
theorem or_low (v : Nat) : Go.bits .or .u8 ((v : Int) % 256) 128 = ((v % 128 : Nat) : Int) + 128 := by
  rw [or_u8_128 (by omega) (by omega)]; omega
theorem dig_bytes : ∀ (m u : Nat), u < 128 ^ (m + 1) → bytes (dig u) := by
  intro m
  induction m with
  | zero => intro u h x hx; rw [dig_small (by omega)] at hx; simp at hx; omega
  | succ m ih =>
    intro u h
    by_cases hs : u < 128
    · intro x hx; rw [dig_small hs] at hx; simp at hx; omega
    · rw [dig_big hs]
      intro x hx
      rcases List.mem_cons.1 hx with rfl | hx
      · omega
      · exact ih (u / 128) (by rw [Nat.div_lt_iff_lt_mul (by decide), ← Nat.pow_succ]; exact h) x hx
theorem dig_bytes10 {u : Nat} (h : u < 18446744073709551616) : bytes (dig u) := dig_bytes 9 u (by omega)

/-- The bytes in which v is written. -/
def put (v : Int) : List Int := dig (zig v).toNat
def i64 (v : Int) : Prop := -9223372036854775808 ≤ v ∧ v ≤ 9223372036854775807
theorem put_bytes {v : Int} (h : i64 v) : bytes (put v) := dig_bytes10 (by have := zig_range h.1 h.2; omega)
theorem put_len {v : Int} (h : i64 v) : 1 ≤ (put v).length ∧ (put v).length ≤ 10 := dig_len10 (by have := zig_range h.1 h.2; omega)
def putAll (vs : List Int) : List Int := (vs.map put).flatten
theorem putAll_cons (v : Int) (vs : List Int) : putAll (v :: vs) = put v ++ putAll vs := by simp [putAll]
theorem putAll_bytes {vs : List Int} (h : ∀ v ∈ vs, i64 v) : bytes (putAll vs) := by
  induction vs with
  | nil => intro x hx; simp [putAll] at hx
  | cons v vs ih => rw [putAll_cons]; exact bytes_append (put_bytes (h v (List.mem_cons_self ..))) (ih fun w hw => h w (List.mem_cons_of_mem _ hw))
theorem putAll_len {vs : List Int} (h : ∀ v ∈ vs, i64 v) : vs.length ≤ (putAll vs).length ∧ (putAll vs).length ≤ 10 * vs.length := by
  induction vs with
  | nil => simp [putAll]
  | cons v vs ih =>
    rw [putAll_cons]
    have := put_len (h v (List.mem_cons_self ..))
    have := ih fun w hw => h w (List.mem_cons_of_mem _ hw)
    simp only [List.length_append, List.length_cons]
    omega

theorem PutAll_l1 (xs : List Int) (n : Int) (i : Int) (r : List Int) : ∀ (m v : Nat) (acc : List Int), v < 128 ^ (m + 1) → acc.length + (m + 1) ≤ 140737488355328 →
    Ev (fun k => vint_PutAll.l0 k (acc ++ dig v) xs n (wrap64 (i + 1))) r → Ev (fun k => vint_PutAll.l1 k acc v xs n i) r := by
  intro m
  induction m with
  | zero =>
    intro v acc hv ha h
    rw [dig_small (by omega)] at h
    refine succ ?_
    simp only [vint_PutAll.l1]
    refine neg (by omega) (pos (by omega) ?_)
    rw [show (v : Int) % 256 = v by omega]
    exact h
  | succ m ih =>
    intro v acc hv ha h
    by_cases hs : v < 128
    · rw [dig_small hs] at h
      refine succ ?_
      simp only [vint_PutAll.l1]
      refine neg (by omega) (pos (by omega) ?_)
      rw [show (v : Int) % 256 = v by omega]
      exact h
    · rw [dig_big hs] at h
      refine succ ?_
      simp only [vint_PutAll.l1]
      refine pos (by omega) (pos (by omega) ?_)
      rw [or_low, show (v : Int) / 128 = ((v / 128 : Nat) : Int) by omega]
      refine ih (v / 128) _ (by rw [Nat.div_lt_iff_lt_mul (by decide), ← Nat.pow_succ]; exact hv) (by simp; omega) ?_
      simpa using h

theorem PutAll_l0 (xs : List Int) (hx : ∀ v ∈ xs, i64 v) (hl : xs.length ≤ 9223372036854775806) : ∀ (n i : Nat) (acc : List Int), n + i = xs.length → acc.length + 10 * n ≤ 140737488355318 →
    Ev (fun k => vint_PutAll.l0 k acc xs xs.length i) (acc ++ putAll (xs.drop i)) := by
  intro n
  induction n with
  | zero =>
    intro i acc hi ha
    refine succ ?_
    simp only [vint_PutAll.l0]
    refine neg (by omega) ?_
    rw [List.drop_of_length_le (by omega)]
    simpa [putAll] using Ev.now acc
  | succ n ih =>
    intro i acc hi ha
    have hxi : i < xs.length := by omega
    have hv := hx xs[i] (List.getElem_mem hxi)
    have hz := zig_range hv.1 hv.2
    refine succ ?_
    simp only [vint_PutAll.l0]
    refine pos (by omega) (pos (by omega) (pos (by omega) ?_))
    rw [rd_at xs i hxi]
    refine Ev.bind (Zig_ev hv.1 hv.2) ?_
    rw [show zig xs[i] = ((zig xs[i]).toNat : Int) from (Int.toNat_of_nonneg hz.1).symm]
    refine PutAll_l1 xs _ _ _ 9 (zig xs[i]).toNat acc (by omega) (by omega) ?_
    rw [w64 (by omega) (by omega), List.drop_eq_getElem_cons hxi, putAll_cons, ← List.append_assoc]
    refine ih (i + 1) _ (by omega) ?_
    have := put_len hv
    have e : (dig (zig xs[i]).toNat).length ≤ 10 := this.2
    simp only [List.length_append]
    omega
theorem PutAll_ev (xs : List Int) (hx : ∀ v ∈ xs, i64 v) (hl : 10 * xs.length ≤ 140737488355318) : Ev (fun k => vint_PutAll.f k xs) (putAll xs) := by
  have := PutAll_l0 xs hx (by omega) xs.length 0 [] (by omega) (by simp; omega)
  simpa [vint_PutAll.f] using this
theorem Put_ev (v : Int) (hv : i64 v) : Ev (fun k => vint_Put.f k v) (put v) := by
  have := PutAll_ev [v] (by simpa using hv) (by simp)
  rw [show putAll [v] = put v by simp [putAll]] at this
  exact Ev.bind this (Ev.now _)

theorem alive_ev : Ev (fun k => leatlaw02_alive.f k) true := by
  unfold leatlaw02_alive.f
  refine Ev.bind (Get_ev [9, 128, 1] 1 (by intro x hx; simp at hx; omega) (by decide)) ?_
  refine pos (by decide) (pos (by decide) (pos (by decide) ?_))
  refine Ev.bind (Put_ev (-64) (by unfold i64; omega)) ?_
  have e : put (-64) = [127] := by unfold put; rw [show (zig (-64)).toNat = 127 by decide, dig_small (by decide)]; rfl
  rw [e]
  exact Ev.bind (Same_ev _ _ (by decide)) (by simpa using Ev.now true)

end Go.Proofs.Ythkbnmlelolljaa.Pv
