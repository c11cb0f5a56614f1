/- Of three rows of bytes of one length, the sum of their xor is the xor of their sums: where the rows are of bulk at most 1048576. -/
import Derived.Test.YtlpgpggaagfdnaaDoorStmtCrcMixes
import Derived.Test.YtlpgpggaagfdnaaDoorPc
namespace Go.Proofs.YtlpgpggaagfdnaaDoor.CrcMixes
open Go.RowKit Go.Proofs.YtlpgpggaagfdnaaDoorW.PrintWords Go.Proofs.YtlpgpggaagfdnaaDoor.Q Go.Proofs.YtlpgpggaagfdnaaDoor.Ev Go.Proofs.YtlpgpggaagfdnaaDoor.Pv Go.Proofs.YtlpgpggaagfdnaaDoor.Cm
theorem fours (xs : List S37) : (xs.map fun _ => 4).sum = 4 * xs.length := by induction xs with | nil => rfl | cons x r ih => simp [ih]; omega
def mix (x : S37) : Int := Go.bits .xor .u8 (Go.bits .xor .u8 x.f0 x.f1) x.f2
def fine (x : S37) : Prop := (0 ≤ x.f0 ∧ x.f0 ≤ 255) ∧ (0 ≤ x.f1 ∧ x.f1 ≤ 255) ∧ (0 ≤ x.f2 ∧ x.f2 ≤ 255)
theorem xor_u8 {a b : Int} (ha0 : 0 ≤ a) (ha : a ≤ 255) (hb0 : 0 ≤ b) (hb : b ≤ 255) : BitVec.ofInt 32 (Go.bits .xor .u8 a b) = BitVec.ofInt 32 a ^^^ BitVec.ofInt 32 b ∧ 0 ≤ Go.bits .xor .u8 a b ∧ Go.bits .xor .u8 a b ≤ 255 := by
  obtain ⟨m, rfl⟩ := Int.eq_ofNat_of_zero_le ha0
  obtain ⟨n, rfl⟩ := Int.eq_ofNat_of_zero_le hb0
  have p8 : ((2 ^ IntKind.u8.bits : Nat) : Int) = 256 := rfl
  have hx : m ^^^ n < 256 := Nat.xor_lt_two_pow (n := 8) (by omega) (by omega)
  have e : Go.bits .xor .u8 (m : Int) (n : Int) = ((m ^^^ n : Nat) : Int) := by
    rw [xor_of (k := .u8) (x := (m : Int)) (y := (n : Int)) m n (by rw [p8]; omega) (by rw [p8]; omega), IntKind.wrap_u8]
    omega
  rw [e]
  refine ⟨?_, by omega, by omega⟩
  rw [BitVec.ofInt_natCast, BitVec.ofInt_natCast, BitVec.ofInt_natCast]
  apply BitVec.eq_of_toNat_eq
  rw [BitVec.toNat_xor, BitVec.toNat_ofNat, BitVec.toNat_ofNat, BitVec.toNat_ofNat, Nat.mod_eq_of_lt (by omega), Nat.mod_eq_of_lt (by omega), Nat.mod_eq_of_lt (by omega)]
theorem mix_eq {x : S37} (h : fine x) : BitVec.ofInt 32 (mix x) = BitVec.ofInt 32 x.f0 ^^^ BitVec.ofInt 32 x.f1 ^^^ BitVec.ofInt 32 x.f2 ∧ 0 ≤ mix x ∧ mix x ≤ 255 := by
  have h1 := xor_u8 h.1.1 h.1.2 h.2.1.1 h.2.1.2
  have h2 := xor_u8 h1.2.1 h1.2.2 h.2.2.1 h.2.2.2
  exact ⟨by unfold mix; rw [h2.1, h1.1], h2.2⟩
theorem six (s t u a b c : BitVec 32) : (s ^^^ t ^^^ u) ^^^ (a ^^^ b ^^^ c) = (s ^^^ a) ^^^ (t ^^^ b) ^^^ (u ^^^ c) := by ac_rfl
theorem reg_mix : ∀ (xs : List S37) (s t u : BitVec 32), (∀ x ∈ xs, fine x) → reg (s ^^^ t ^^^ u) (xs.map mix) = reg s (xs.map (·.f0)) ^^^ reg t (xs.map (·.f1)) ^^^ reg u (xs.map (·.f2)) := by
  intro xs
  induction xs with
  | nil => intro s t u _; rfl
  | cons x xs ih =>
    intro s t u h
    simp only [List.map_cons, reg_cons]
    rw [(mix_eq (h x (List.mem_cons_self ..))).1, six, steps_xor, steps_xor]
    exact ih _ _ _ fun y hy => h y (List.mem_cons_of_mem _ hy)
theorem not3 (a b c : BitVec 32) : ~~~(a ^^^ b ^^^ c) = ~~~a ^^^ ~~~b ^^^ ~~~c := by
  apply BitVec.eq_of_getLsbD_eq
  intro i hi
  simp only [BitVec.getLsbD_xor, BitVec.getLsbD_not, hi, decide_true, Bool.true_and]
  cases a.getLsbD i <;> cases b.getLsbD i <;> cases c.getLsbD i <;> rfl
theorem crc_mix (xs : List S37) (h : ∀ x ∈ xs, fine x) : crc (xs.map mix) = crc (xs.map (·.f0)) ^^^ crc (xs.map (·.f1)) ^^^ crc (xs.map (·.f2)) := by
  have := reg_mix xs (~~~0#32) (~~~0#32) (~~~0#32) h
  rw [show (~~~0#32 ^^^ ~~~0#32 ^^^ ~~~0#32 : BitVec 32) = ~~~0#32 by decide] at this
  unfold crc upd
  rw [this, not3]

theorem l0 (xs : List S37) (h : ∀ x ∈ xs, fine x) (hl : xs.length ≤ 1048576) : ∀ (n i : Nat), n + i = xs.length →
    Ev (fun k => leatlaw03_CrcMixes.l0 k ((xs.take i).map (·.f0)) ((xs.take i).map (·.f1)) ((xs.take i).map (·.f2)) ((xs.take i).map mix) xs xs.length i) true := by
  intro n
  induction n with
  | zero =>
    intro i hi
    have b0 : Pv.bytes (xs.map (·.f0)) := by intro y hy; obtain ⟨x, hx, rfl⟩ := List.mem_map.1 hy; exact (h x hx).1
    have b1 : Pv.bytes (xs.map (·.f1)) := by intro y hy; obtain ⟨x, hx, rfl⟩ := List.mem_map.1 hy; exact (h x hx).2.1
    have b2 : Pv.bytes (xs.map (·.f2)) := by intro y hy; obtain ⟨x, hx, rfl⟩ := List.mem_map.1 hy; exact (h x hx).2.2
    have b3 : Pv.bytes (xs.map mix) := by intro y hy; obtain ⟨x, hx, rfl⟩ := List.mem_map.1 hy; exact (mix_eq (h x hx)).2
    have one : ∀ l : List Int, Pv.bytes l → Ev (fun k => crc_Sum.f k [l]) (num (crc l)) := by
      intro l hb
      have := Sum_ev [l] (by intro y hy; rw [List.mem_singleton.1 hy]; exact hb) (by simp)
      simpa using this
    refine succ ?_
    simp only [leatlaw03_CrcMixes.l0]
    refine neg (by omega) ?_
    rw [List.take_of_length_le (by omega)]
    refine Ev.bind (one _ b3) (Ev.bind (one _ b0) (Ev.bind (one _ b1) (Ev.bind (one _ b2) ?_)))
    rw [xor_num, xor_num, crc_mix xs h]
    simpa using Ev.now true
  | succ n ih =>
    intro i hi
    have hx : i < xs.length := by omega
    have hr : rd_T37 xs (i : Int) = xs[i] := by unfold rd_T37; simp [List.getD_eq_getElem?_getD, hx]
    have hlen : (xs.take i).length = i := by rw [List.length_take]; omega
    refine succ ?_
    simp only [leatlaw03_CrcMixes.l0]
    rw [hr, w64 (by omega) (by omega)]
    refine pos (by omega) (pos (by omega) (pos (by omega) (pos (by rw [List.length_map]; omega) (pos (by rw [List.length_map]; omega) (pos (by rw [List.length_map]; omega) (pos (by rw [List.length_map]; omega) ?_))))))
    have := ih (i + 1) (by omega)
    rw [List.take_succ_eq_append_getElem hx] at this
    rw [show ((i + 1 : Nat) : Int) = (i : Int) + 1 by omega] at this
    simpa only [List.map_append, List.map_cons, List.map_nil, mix] using this

theorem pure : small := by
  intro xs hw hsz
  simp only [fours] at hsz
  have h : ∀ x ∈ xs, fine x := fun x hx => ⟨wf_u8 (hw x hx).1, wf_u8 (hw x hx).2.1, wf_u8 (hw x hx).2.2⟩
  refine Ev.rounds (r := true) ?_
  unfold leatlaw03_CrcMixes.f
  exact Ev.bind alive_ev (pos rfl (l0 xs h (by omega) xs.length 0 (by omega)))
end Go.Proofs.YtlpgpggaagfdnaaDoor.CrcMixes
