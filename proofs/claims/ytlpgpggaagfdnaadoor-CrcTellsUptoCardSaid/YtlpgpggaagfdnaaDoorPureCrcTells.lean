/- Bytes turned within 32 bits one behind the other have another sum: where the bytes are of bulk at most 1048576. -/
import Derived.Test.YtlpgpggaagfdnaaDoorStmtCrcTells
import Derived.Test.YtlpgpggaagfdnaaDoorPc
namespace Go.Proofs.YtlpgpggaagfdnaaDoor.CrcTells
open Go.RowKit Go.Proofs.YtlpgpggaagfdnaaDoorW.PrintWords Go.Proofs.YtlpgpggaagfdnaaDoor.Q Go.Proofs.YtlpgpggaagfdnaaDoor.Ev Go.Proofs.YtlpgpggaagfdnaaDoor.Pv Go.Proofs.YtlpgpggaagfdnaaDoor.Cm
theorem ones (xs : List Int) : (xs.map fun _ => 1).sum = xs.length := by induction xs with | nil => rfl | cons x r ih => simp [ih]; omega

/-- The byte k of a mask that is moved up by low bits. -/
def W (low k : Nat) (m : BitVec 32) : BitVec 32 := ((m.setWidth 64 <<< low) >>> (8 * k)).setWidth 32 &&& 255#32
theorem W_xor (low k : Nat) (a b : BitVec 32) : W low k (a ^^^ b) = W low k a ^^^ W low k b := by
  unfold W
  rw [BitVec.setWidth_xor, BitVec.shiftLeft_xor_distrib, BitVec.ushiftRight_xor_distrib, BitVec.setWidth_xor]
  generalize (a.setWidth 64 <<< low >>> (8 * k)).setWidth 32 = x
  generalize (b.setWidth 64 <<< low >>> (8 * k)).setWidth 32 = y
  apply BitVec.eq_of_getLsbD_eq
  intro i hi
  simp only [BitVec.getLsbD_xor, BitVec.getLsbD_and]
  cases x.getLsbD i <;> cases y.getLsbD i <;> cases (255#32).getLsbD i <;> rfl
def five (low : Nat) (m : BitVec 32) : BitVec 32 := steps 40 (W low 0 m) ^^^ steps 32 (W low 1 m) ^^^ steps 24 (W low 2 m) ^^^ steps 16 (W low 3 m) ^^^ steps 8 (W low 4 m)
theorem xor4 (a b c d : BitVec 32) : (a ^^^ b) ^^^ (c ^^^ d) = (a ^^^ c) ^^^ (b ^^^ d) := by
  rw [BitVec.xor_assoc, BitVec.xor_assoc, ← BitVec.xor_assoc b, BitVec.xor_comm b c, BitVec.xor_assoc c]
theorem five_xor (low : Nat) (a b : BitVec 32) : five low (a ^^^ b) = five low a ^^^ five low b := by
  unfold five
  simp only [W_xor, steps_xor]
  rw [xor4 (steps 40 (W low 0 a)), xor4 (steps 40 (W low 0 a) ^^^ _), xor4 (steps 40 (W low 0 a) ^^^ _ ^^^ _), xor4 (steps 40 (W low 0 a) ^^^ _ ^^^ _ ^^^ _)]
theorem five_basis : ∀ low : Fin 8, ∀ j : Fin 32, five low.val (1#32 <<< j.val) = steps (40 - low.val) (1#32 <<< j.val) := by decide +kernel
theorem five_eq (low : Nat) (h : low < 8) (m : BitVec 32) : five low m = steps (40 - low) m :=
  lin_ext (five low) (steps (40 - low)) (five_xor low) (steps_xor _) (fun j hj => five_basis ⟨low, h⟩ ⟨j, hj⟩) m
theorem five_ne (low : Nat) (h : low < 8) (m : BitVec 32) (hm : m ≠ 0#32) : five low m ≠ 0#32 := by
  rw [five_eq low h]
  intro e
  exact hm (steps_inj (40 - low) (e.trans (steps_zero _).symm))

/-- Five bytes from any register. -/
theorem reg5 (s : BitVec 32) (a b c d e : Int) : reg s [a, b, c, d, e] = steps 40 s ^^^ (steps 40 (BitVec.ofInt 32 a) ^^^ steps 32 (BitVec.ofInt 32 b) ^^^ steps 24 (BitVec.ofInt 32 c) ^^^ steps 16 (BitVec.ofInt 32 d) ^^^ steps 8 (BitVec.ofInt 32 e)) := by
  simp only [reg, List.foldl_cons, List.foldl_nil, steps_xor, ← steps_add]
  simp only [BitVec.xor_assoc]

theorem xor_u8 {a b : Int} (ha0 : 0 ≤ a) (ha : a ≤ 255) (hb0 : 0 ≤ b) (hb : b ≤ 255) : BitVec.ofInt 32 (Go.bits .xor .u8 a b) = BitVec.ofInt 32 a ^^^ BitVec.ofInt 32 b ∧ 0 ≤ Go.bits .xor .u8 a b ∧ Go.bits .xor .u8 a b ≤ 255 := by
  obtain ⟨m, rfl⟩ := Int.eq_ofNat_of_zero_le ha0
  obtain ⟨n, rfl⟩ := Int.eq_ofNat_of_zero_le hb0
  have p8 : ((2 ^ IntKind.u8.bits : Nat) : Int) = 256 := rfl
  have hx : m ^^^ n < 256 := Nat.xor_lt_two_pow (n := 8) (by omega) (by omega)
  have e : Go.bits .xor .u8 (m : Int) (n : Int) = ((m ^^^ n : Nat) : Int) := by
    rw [xor_of (k := .u8) (x := (m : Int)) (y := (n : Int)) m n (by rw [p8]; omega) (by rw [p8]; omega), IntKind.wrap_u8]
    omega
  rw [e]
  refine ⟨?_, by omega, by omega⟩
  rw [BitVec.ofInt_natCast, BitVec.ofInt_natCast, BitVec.ofInt_natCast]
  apply BitVec.eq_of_toNat_eq
  rw [BitVec.toNat_xor, BitVec.toNat_ofNat, BitVec.toNat_ofNat, BitVec.toNat_ofNat, Nat.mod_eq_of_lt (by omega), Nat.mod_eq_of_lt (by omega), Nat.mod_eq_of_lt (by omega)]

/-- The bytes that the law turns by. -/
theorem wide_eq (m : Nat) (hm : m < 4294967296) (low : Nat) (hl : low < 8) : shl .u64 (IntKind.u64.wrap (m : Int)) (IntKind.u64.wrap (low : Int)) = ((m * 2 ^ low : Nat) : Int) := by
  have hp : m * 2 ^ low < 18446744073709551616 := by
    have h1 : 2 ^ low ≤ 2 ^ 7 := Nat.pow_le_pow_right (by decide) (by omega)
    have : m * 2 ^ low ≤ m * 2 ^ 7 := Nat.mul_le_mul_left _ h1
    omega
  unfold shl
  rw [IntKind.wrap_u64, IntKind.wrap_u64, IntKind.wrap_u64, show ((low : Int) % 18446744073709551616).toNat = low by omega, show min low IntKind.u64.bits = low by simp [IntKind.bits]; omega, Int.emod_eq_of_lt (a := (m : Int)) (by omega) (by omega)]
  have e : (m : Int) * 2 ^ low = ((m * 2 ^ low : Nat) : Int) := by simp
  rw [e]
  omega
theorem byte_k (m : Nat) (hm : m < 4294967296) (low k : Nat) (hl : low < 8) (hk : k < 5) : (shr .u64 ((m * 2 ^ low : Nat) : Int) (IntKind.u64.wrap (wrap64 (8 * (k : Int))))) % 256 = num (W low k (BitVec.ofNat 32 m)) := by
  have hp : m * 2 ^ low < 18446744073709551616 := by
    have h1 : 2 ^ low ≤ 2 ^ 7 := Nat.pow_le_pow_right (by decide) (by omega)
    have : m * 2 ^ low ≤ m * 2 ^ 7 := Nat.mul_le_mul_left _ h1
    omega
  unfold shr num W
  rw [w64 (by omega) (by omega), IntKind.wrap_u64, show (8 * (k : Int) % 18446744073709551616).toNat = 8 * k by omega, show min (8 * k) IntKind.u64.bits = 8 * k by simp [IntKind.bits]; omega]
  rw [BitVec.toNat_and, BitVec.toNat_setWidth, BitVec.toNat_ushiftRight, BitVec.toNat_shiftLeft, BitVec.toNat_setWidth, BitVec.toNat_ofNat, Nat.mod_eq_of_lt (a := m) hm, Nat.mod_eq_of_lt (a := m) (by omega), Nat.shiftLeft_eq, Nat.mod_eq_of_lt (a := m * 2 ^ low) (by omega), Nat.shiftRight_eq_div_pow]
  rw [show (255#32).toNat = 2 ^ 8 - 1 from rfl, Nat.and_two_pow_sub_one_eq_mod]
  have e : ((m * 2 ^ low : Nat) : Int) / 2 ^ (8 * k) = ((m * 2 ^ low / 2 ^ (8 * k) : Nat) : Int) := by simp
  rw [e]
  generalize m * 2 ^ low / 2 ^ (8 * k) = q
  omega

theorem set_app (p l : List Int) (k : Nat) (v : Int) : (p ++ l).set (p.length + k) v = p ++ l.set k v := by
  rw [List.set_append_right _ _ (by omega), Nat.add_sub_cancel_left]
theorem rd_app (p l : List Int) (k : Nat) (h : k < l.length) : rd (p ++ l) ((p.length + k : Nat) : Int) = l[k] := by
  rw [rd_at _ _ (by simp; omega), List.getElem_append_right (by omega)]
  congr 1; omega

theorem loop (b p t : List Int) (m low : Nat) (hm : m < 4294967296) (hl : low < 8) (hlen : p.length + t.length ≤ 1048576) (hb : Pv.bytes b) (hp : Pv.bytes p) (ht : Pv.bytes t) : ∀ (n k : Nat) (l5 : List Int), l5.length = 5 → Pv.bytes l5 → n + k = 5 → (∀ l6 : List Int, l6.length = 5 → Pv.bytes l6 → (∀ j, (h5 : j < 5) → j < k → l6[j]? = l5[j]?) → (∀ j, (h5 : j < 5) → k ≤ j → l6[j]? = some (Go.bits .xor .u8 (l5.getD j 0) (num (W low j (BitVec.ofNat 32 m))))) → crc (p ++ (l6 ++ t)) ≠ crc b) →
    Ev (fun r => leatlaw03_CrcTells.l0 r b (p.length : Int) (p ++ (l5 ++ t)) ((m * 2 ^ low : Nat) : Int) k) true := by
  intro n
  induction n with
  | zero =>
    intro k l5 h5 hb5 hk hne
    obtain rfl : k = 5 := by omega
    have hx := hne l5 h5 hb5 (fun j _ _ => rfl) (fun j h h2 => by omega)
    refine succ ?_
    simp only [leatlaw03_CrcTells.l0]
    refine neg (by omega) ?_
    refine Ev.bind (Sum_ev [p ++ (l5 ++ t)] (by intro l h; rw [List.mem_singleton.1 h]; exact bytes_append hp (bytes_append hb5 ht)) (by simp)) (Ev.bind (Sum_ev [b] (by intro l h; rw [List.mem_singleton.1 h]; exact hb) (by simp)) ?_)
    rw [show ([p ++ (l5 ++ t)] : List (List Int)).flatten = p ++ (l5 ++ t) by simp, show ([b] : List (List Int)).flatten = b by simp]
    have : (num (crc (p ++ (l5 ++ t))) != num (crc b)) = true := by
      rw [bne_iff_ne]; exact fun e => hx (num_inj e)
    rw [this]
    exact Ev.now _
  | succ n ih =>
    intro k l5 h5 hb5 hk hne
    have hk5 : k < 5 := by omega
    have hx := hb5 _ (List.getElem_mem (l := l5) (n := k) (by omega))
    have hW := num_range (W low k (BitVec.ofNat 32 m))
    have hW2 : num (W low k (BitVec.ofNat 32 m)) ≤ 255 := by
      rw [← byte_k m hm low k hl hk5]; omega
    have hxor := xor_u8 hx.1 hx.2 hW.1 hW2
    refine succ ?_
    simp only [leatlaw03_CrcTells.l0]
    rw [w64 (x := (p.length : Int) + k) (by omega) (by omega), w64 (x := (k : Int) + 1) (by omega) (by omega), byte_k m hm low k hl hk5, show (p.length : Int) + k = ((p.length + k : Nat) : Int) by omega]
    refine pos (by omega) (pos (by omega) (pos (by simp; omega) (pos (by rw [w64 (by omega) (by omega), IntKind.wrap_u64]; omega) ?_)))
    rw [rd_app p (l5 ++ t) k (by simp; omega), List.getElem_append_left (by omega), Int.toNat_natCast, set_app, List.set_append_left _ _ (by omega)]
    refine ih (k + 1) _ (by simpa using h5) ?_ (by omega) ?_
    · intro y hy
      rcases List.mem_or_eq_of_mem_set hy with h | rfl
      · exact hb5 y h
      · exact hxor.2
    · intro l6 h6 hb6 hlo hhi
      refine hne l6 h6 hb6 (fun j h hj => ?_) (fun j h hj => ?_)
      · rw [hlo j h (by omega), List.getElem?_set_ne (by omega)]
      · by_cases hjk : j = k
        · subst hjk
          rw [hlo j h (by omega), List.getElem?_set_self (by omega)]
          simp [List.getD_eq_getElem?_getD, h5, hk5]
        · rw [hhi j h (by omega)]
          congr 2
          rw [List.getD_eq_getElem?_getD, List.getD_eq_getElem?_getD, List.getElem?_set_ne (by omega)]

theorem gen5 (a b c d e v w x y z : BitVec 32) : (a ^^^ v) ^^^ (b ^^^ w) ^^^ (c ^^^ x) ^^^ (d ^^^ y) ^^^ (e ^^^ z) = (a ^^^ b ^^^ c ^^^ d ^^^ e) ^^^ (v ^^^ w ^^^ x ^^^ y ^^^ z) := by ac_rfl
theorem cancel (a x y : BitVec 32) (h : a ^^^ x = a ^^^ y) : x = y := by
  have := congrArg (fun z => a ^^^ z) h
  simpa [← BitVec.xor_assoc] using this
theorem reg_inj (l : List Int) {a b : BitVec 32} (h : reg a l = reg b l) : a = b := by
  rw [reg_split l a, reg_split l b, BitVec.xor_comm, BitVec.xor_comm (steps _ b)] at h
  exact steps_inj _ (cancel _ _ _ h)
theorem differs (p t l6 m5 : List Int) (m low : Nat) (hm : m < 4294967296) (hm0 : m ≠ 0) (hl : low < 8) (h6 : l6.length = 5) (h5 : m5.length = 5) (hb5 : Pv.bytes m5)
    (h : ∀ j, j < 5 → l6[j]? = some (Go.bits .xor .u8 (m5.getD j 0) (num (W low j (BitVec.ofNat 32 m))))) : crc (p ++ (l6 ++ t)) ≠ crc (p ++ (m5 ++ t)) := by
  intro e
  match m5, h5, l6, h6 with
  | [a0, a1, a2, a3, a4], _, [x0, x1, x2, x3, x4], _ =>
    have hW : ∀ k, k < 5 → 0 ≤ num (W low k (BitVec.ofNat 32 m)) ∧ num (W low k (BitVec.ofNat 32 m)) ≤ 255 := fun k hk => ⟨(num_range _).1, by rw [← byte_k m hm low k hl hk]; omega⟩
    have b0 := hb5 a0 (by simp)
    have b1 := hb5 a1 (by simp)
    have b2 := hb5 a2 (by simp)
    have b3 := hb5 a3 (by simp)
    have b4 := hb5 a4 (by simp)
    have e0 : x0 = _ := Option.some.inj (h 0 (by omega))
    have e1 : x1 = _ := Option.some.inj (h 1 (by omega))
    have e2 : x2 = _ := Option.some.inj (h 2 (by omega))
    have e3 : x3 = _ := Option.some.inj (h 3 (by omega))
    have e4 : x4 = _ := Option.some.inj (h 4 (by omega))
    have o0 := (xor_u8 b0.1 b0.2 (hW 0 (by omega)).1 (hW 0 (by omega)).2).1
    have o1 := (xor_u8 b1.1 b1.2 (hW 1 (by omega)).1 (hW 1 (by omega)).2).1
    have o2 := (xor_u8 b2.1 b2.2 (hW 2 (by omega)).1 (hW 2 (by omega)).2).1
    have o3 := (xor_u8 b3.1 b3.2 (hW 3 (by omega)).1 (hW 3 (by omega)).2).1
    have o4 := (xor_u8 b4.1 b4.2 (hW 4 (by omega)).1 (hW 4 (by omega)).2).1
    rw [ofInt_num] at o0 o1 o2 o3 o4
    simp only [List.getD_cons_zero, List.getD_cons_succ] at e0 e1 e2 e3 e4
    have e' : reg (~~~0#32) (p ++ ([x0, x1, x2, x3, x4] ++ t)) = reg (~~~0#32) (p ++ ([a0, a1, a2, a3, a4] ++ t)) := by
      have := congrArg (fun z => ~~~z) e
      simpa only [crc, upd, BitVec.not_not] using this
    rw [reg_append, reg_append, reg_append, reg_append] at e'
    have e5 := reg_inj t e'
    rw [reg5, reg5] at e5
    have e6 := cancel _ _ _ e5
    rw [e0, e1, e2, e3, e4, o0, o1, o2, o3, o4, steps_xor, steps_xor, steps_xor, steps_xor, steps_xor, gen5] at e6
    have e7 : five low (BitVec.ofNat 32 m) = 0#32 := by
      unfold five
      refine cancel (steps 40 (BitVec.ofInt 32 a0) ^^^ steps 32 (BitVec.ofInt 32 a1) ^^^ steps 24 (BitVec.ofInt 32 a2) ^^^ steps 16 (BitVec.ofInt 32 a3) ^^^ steps 8 (BitVec.ofInt 32 a4)) _ _ ?_
      rw [BitVec.xor_zero]
      exact e6
    refine five_ne low hl _ ?_ e7
    intro h0
    have := congrArg BitVec.toNat h0
    rw [BitVec.toNat_ofNat, Nat.mod_eq_of_lt (by omega)] at this
    exact hm0 (by simpa using this)

theorem pure : small := by
  intro b hw at_ ha low hlw mask hmw hsz
  simp only [ones] at hsz
  have hb : Pv.bytes b := fun x hx => wf_u8 (hw x hx)
  obtain ⟨a0, a1⟩ := wf_i64 ha
  have hmask : 0 ≤ mask ∧ mask ≤ 4294967295 := by simp [Lit.wf, IntKind.min, IntKind.max, IntKind.bits, IntKind.signed] at hmw; omega
  refine Ev.rounds (r := true) ?_
  unfold leatlaw03_CrcTells.f
  refine Ev.bind alive_ev (pos rfl ?_)
  have out : Ev (fun k => leatlaw03_CrcTells.j0 k b at_ low mask true) true := by
    refine succ ?_
    simp only [leatlaw03_CrcTells.j0]
    exact pos trivial (Ev.now _)
  by_cases h1 : at_ < 0
  · exact pos h1 out
  refine neg h1 ?_
  by_cases h2 : low < 0
  · exact pos h2 out
  refine neg h2 ?_
  by_cases h3 : low > 7
  · exact pos h3 out
  refine neg h3 ?_
  by_cases h4 : (b.length : Int) < 5
  · exact pos h4 out
  refine neg h4 ?_
  rw [w64 (x := (b.length : Int) - 5) (by omega) (by omega)]
  by_cases h5 : at_ > (b.length : Int) - 5
  · exact pos h5 out
  refine neg h5 ?_
  by_cases h6 : mask = 0
  · rw [show (mask == 0) = true by simp [h6]]
    exact out
  rw [show (mask == 0) = false by simp [h6]]
  refine succ ?_
  simp only [leatlaw03_CrcTells.j0]
  refine neg (by decide) (Ev.bind (Copy_ev b (by omega)) (pos (by rw [IntKind.wrap_u64]; omega) ?_))
  obtain ⟨n, rfl⟩ := Int.eq_ofNat_of_zero_le (show 0 ≤ at_ by omega)
  obtain ⟨lo, rfl⟩ := Int.eq_ofNat_of_zero_le (show 0 ≤ low by omega)
  obtain ⟨m, rfl⟩ := Int.eq_ofNat_of_zero_le hmask.1
  rw [wide_eq m (by omega) lo (by omega)]
  have hp : (b.take n).length = n := by rw [List.length_take]; omega
  have hm5 : ((b.drop n).take 5).length = 5 := by rw [List.length_take, List.length_drop]; omega
  have hsplit : b = b.take n ++ ((b.drop n).take 5 ++ (b.drop n).drop 5) := by rw [List.take_append_drop, List.take_append_drop]
  have hne := loop b (b.take n) ((b.drop n).drop 5) m lo (by omega) (by omega) (by rw [hp, List.length_drop, List.length_drop]; omega) hb (bytes_take hb _) (bytes_drop (bytes_drop hb _) _) 5 0 ((b.drop n).take 5) hm5 (bytes_take (bytes_drop hb _) _) rfl (by
    intro l6 hl6 _ _ hhi
    have := differs (b.take n) ((b.drop n).drop 5) l6 ((b.drop n).take 5) m lo (by omega) (by omega) (by omega) hl6 hm5 (bytes_take (bytes_drop hb _) _) (fun j hj => hhi j hj (Nat.zero_le _))
    rwa [← hsplit] at this)
  rw [← hsplit, hp] at hne
  exact hne
end Go.Proofs.YtlpgpggaagfdnaaDoor.CrcTells
