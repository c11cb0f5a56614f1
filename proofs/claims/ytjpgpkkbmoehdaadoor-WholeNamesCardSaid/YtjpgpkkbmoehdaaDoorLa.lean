/- The plain laws of the names: a directory's and a file's bytes, told apart and read back; no program in sight. -/
import Derived.Lib.ItoaNum
import Derived.Lib.ItoaLen
import Derived.Lib.ParseIntBCases
import Derived.Lib.LastIndexByte
import Derived.Lib.Repeat
import Derived.Lib.Strings
import GoSem.Op.String
namespace Go.Proofs.YtjpgpkkbmoehdaaDoor.Ra.Nm
open Go
set_option linter.unusedVariables false
set_option linter.unusedSimpArgs false
/-- May the byte stand in a topic's name? -/
def okB (c : UInt8) : Prop := (97 ≤ c.toNat ∧ c.toNat ≤ 122) ∨ (65 ≤ c.toNat ∧ c.toNat ≤ 90) ∨ (48 ≤ c.toNat ∧ c.toNat ≤ 57) ∨ c.toNat = 46 ∨ c.toNat = 95 ∨ c.toNat = 45
structure OkT (l : List UInt8) : Prop where
  lo : 1 ≤ l.length
  hi : l.length ≤ 64
  d1 : l ≠ [46]
  d2 : l ≠ [46, 46]
  b : ∀ c ∈ l, okB c
theorem okB_ascii {c : UInt8} (h : okB c) : c.toNat < 128 := by unfold okB at h; omega
def dig (c : UInt8) : Prop := 48 ≤ c.toNat ∧ c.toNat ≤ 57
theorem decDigits_dig (u : Nat) : ∀ c ∈ Lib.decDigits u, dig c := by
  rw [Lib.decDigits_eq]
  intro c hc
  obtain ⟨t, _, rfl⟩ := List.mem_map.1 hc
  unfold dig Lib.dg
  have : u / 10 ^ (Lib.nDigits u - 1 - t) % 10 < 10 := Nat.mod_lt _ (by decide)
  rw [UInt8.toNat_ofNat']
  omega
/-- What digits spell, behind a number. -/
def val (acc : Nat) (l : List UInt8) : Nat := l.foldl (fun a c => a * 10 + (c.toNat - 48)) acc
theorem val_append (acc : Nat) (a b : List UInt8) : val acc (a ++ b) = val (val acc a) b := by unfold val; rw [List.foldl_append]
theorem val_cons (acc : Nat) (c : UInt8) (l : List UInt8) : val acc (c :: l) = val (acc * 10 + (c.toNat - 48)) l := by unfold val; rw [List.foldl_cons]
theorem val_le (l : List UInt8) : ∀ acc, acc ≤ val acc l := by
  induction l with
  | nil => intro acc; exact Nat.le_refl _
  | cons c l ih => intro acc; rw [val_cons]; have := ih (acc * 10 + (c.toNat - 48)); omega
theorem val_split (l : List UInt8) : ∀ acc, val acc l = acc * 10 ^ l.length + val 0 l := by
  induction l with
  | nil => intro acc; simp [val]
  | cons c l ih =>
    intro acc
    rw [val_cons, val_cons, ih (acc * 10 + _), ih (0 * 10 + _), List.length_cons, Nat.pow_succ]
    generalize 10 ^ l.length = K
    generalize val 0 l = V
    generalize c.toNat - 48 = D
    rw [Nat.add_mul, Nat.add_mul, Nat.mul_assoc, Nat.mul_comm 10 K]
    omega
theorem val_lt (l : List UInt8) (h : ∀ c ∈ l, dig c) : val 0 l < 10 ^ l.length := by
  induction l with
  | nil => simp [val]
  | cons c l ih =>
    rw [val_cons, val_split, List.length_cons, Nat.pow_succ]
    have h1 := ih fun x hx => h x (List.mem_cons_of_mem _ hx)
    have h2 := h c (List.mem_cons_self ..)
    unfold dig at h2
    have h3 : (0 * 10 + (c.toNat - 48)) * 10 ^ l.length ≤ 9 * 10 ^ l.length := Nat.mul_le_mul_right _ (by omega)
    omega
theorem val_dec (u : Nat) : val 0 (Lib.decDigits u) = u := by
  induction u using Nat.strongRecOn with
  | _ u ih =>
    rw [Lib.decDigits]
    by_cases h : u < 10
    · rw [dif_pos h]
      simp only [val, List.foldl_cons, List.foldl_nil, UInt8.toNat_ofNat']
      omega
    · rw [dif_neg h, val_append, ih (u / 10) (by omega)]
      simp only [val, List.foldl_cons, List.foldl_nil, UInt8.toNat_ofNat']
      omega
theorem val_zeros (k : Nat) : val 0 (List.replicate k 48) = 0 := by
  induction k with
  | zero => rfl
  | succ k ih => rw [List.replicate_succ, val_cons]; exact ih
theorem parse_val (M : Nat) (hM : M ≤ 18446744073709551615) : ∀ (l : List UInt8) (acc : Nat), (∀ c ∈ l, dig c) → val acc l ≤ M → Lib.parseUintM M acc l = .ok (val acc l)
  | [], acc, _, _ => rfl
  | c :: l, acc, h, hv => by
    have h2 := h c (List.mem_cons_self ..)
    rw [val_cons] at hv
    have h3 := val_le l (acc * 10 + (c.toNat - 48))
    rw [Lib.parseUintM, if_pos (show 48 ≤ c.toNat ∧ c.toNat ≤ 57 from h2), if_neg (by omega), if_neg (by omega), parse_val M hM l _ (fun x hx => h x (List.mem_cons_of_mem _ hx)) hv, val_cons]
theorem parseInt_val (B : Nat) (hB : 2 ^ B - 1 ≤ 18446744073709551615) (h1 : 2 ^ (B - 1) ≤ 2 ^ B - 1) {l : List UInt8} (h : ∀ c ∈ l, dig c) (hne : l ≠ []) (hv : val 0 l < 2 ^ (B - 1)) : Lib.parseIntB B l = .ok ((val 0 l : Nat) : Int) := by
  obtain ⟨c, r, rfl⟩ : ∃ c r, l = c :: r := by cases l with | nil => exact absurd rfl hne | cons c r => exact ⟨c, r, rfl⟩
  have h2 := h c (List.mem_cons_self ..)
  unfold dig at h2
  rw [Lib.parseIntB_plain B c r (by omega) (by omega)]
  unfold Lib.parseUintB
  rw [if_neg (by simp), parse_val _ hB _ _ h (by omega)]
  unfold Lib.signlessC
  simp only
  rw [if_neg (by omega)]
/-- The directory's bytes. -/
def dirL (t : List UInt8) (p : Nat) : List UInt8 := t ++ 45 :: Lib.decDigits p
/-- Twenty digits. -/
def num20 (b : Nat) : List UInt8 := List.replicate (20 - Lib.nDigits b) 48 ++ Lib.decDigits b
def fileL (b : Nat) : List UInt8 := num20 b ++ [46, 108, 111, 103]
theorem num20_dig (b : Nat) : ∀ c ∈ num20 b, dig c := by
  intro c hc
  rcases List.mem_append.1 hc with h | h
  · rw [List.eq_of_mem_replicate h]; unfold dig; decide
  · exact decDigits_dig b c h
theorem nd20 {b : Nat} (h : b < 18446744073709551616) : Lib.nDigits b ≤ 20 := Lib.nDigits_le20 b h
theorem num20_len {b : Nat} (h : b < 18446744073709551616) : (num20 b).length = 20 := by
  unfold num20
  rw [List.length_append, List.length_replicate, Lib.decDigits_length]
  have := nd20 h
  omega
theorem num20_val (b : Nat) : val 0 (num20 b) = b := by unfold num20; rw [val_append, val_zeros, val_dec]
theorem fileL_len {b : Nat} (h : b < 18446744073709551616) : (fileL b).length = 24 := by unfold fileL; rw [List.length_append, num20_len h]; rfl
theorem parse20 {b : Nat} (h : b ≤ 4611686018427387904) : Lib.parseIntB 64 (num20 b) = .ok (b : Int) := by
  have := parseInt_val 64 (by decide) (by decide) (num20_dig b) (by intro h0; have h1 := num20_len (b := b) (by omega); rw [h0] at h1; cases h1) (by rw [num20_val]; omega)
  rw [this, num20_val]
theorem dec_ne (p : Nat) : Lib.decDigits p ≠ [] := by
  intro h0
  have h1 := Lib.decDigits_length p
  rw [h0] at h1
  have := Lib.nDigits_pos p
  simp at h1
  omega
theorem parse32 {p : Nat} (h : p < 2147483648) : Lib.parseIntB 32 (Lib.decDigits p) = .ok (p : Int) := by
  have := parseInt_val 32 (by decide) (by decide) (decDigits_dig p) (dec_ne p) (by rw [val_dec]; exact h)
  rw [this, val_dec]
/- order -/
theorem less_prefix (p : List UInt8) : ∀ x y, Op.bytesLess (p ++ x) (p ++ y) = Op.bytesLess x y := by
  induction p with
  | nil => intro x y; rfl
  | cons c p ih =>
    intro x y
    have hl : (c < c) = False := by simp [UInt8.lt_irrefl]
    simp only [List.cons_append, Op.bytesLess, ih, BEq.rfl, Bool.true_and, hl, decide_false, Bool.false_or]
theorem less_suffix (s : List UInt8) : ∀ x y : List UInt8, x.length = y.length → (Op.bytesLess (x ++ s) (y ++ s) = Op.bytesLess x y)
  | [], [], _ => by
    induction s with
    | nil => rfl
    | cons c s ih =>
      have hl : (c < c) = False := by simp [UInt8.lt_irrefl]
      simp only [List.nil_append] at ih
      simp only [List.nil_append, Op.bytesLess, ih, BEq.rfl, Bool.true_and, hl, decide_false, Bool.false_or]
  | a :: x, b :: y, h => by
    have := less_suffix s x y (by simpa using h)
    simp only [List.cons_append, Op.bytesLess, this]
theorem less_val : ∀ x y : List UInt8, (∀ c ∈ x, dig c) → (∀ c ∈ y, dig c) → x.length = y.length → Op.bytesLess x y = decide (val 0 x < val 0 y)
  | [], [], _, _, _ => by simp [Op.bytesLess, val]
  | a :: x, b :: y, hx, hy, h => by
    have hl : x.length = y.length := by simpa using h
    have hx2 : ∀ c ∈ x, dig c := fun c hc => hx c (List.mem_cons_of_mem _ hc)
    have hy2 : ∀ c ∈ y, dig c := fun c hc => hy c (List.mem_cons_of_mem _ hc)
    have ih := less_val x y hx2 hy2 hl
    have ha := hx a (List.mem_cons_self ..)
    have hb := hy b (List.mem_cons_self ..)
    unfold dig at ha hb
    have lx := val_lt x hx2
    have ly := val_lt y hy2
    rw [val_cons, val_cons, val_split x, val_split y, Op.bytesLess, ih, hl]
    rw [hl] at lx
    generalize 10 ^ y.length = K at *
    have hlt : decide (a < b) = decide (a.toNat < b.toNat) := decide_eq_decide.2 UInt8.lt_iff_toNat_lt
    have heq : (a == b) = decide (a.toNat = b.toNat) := by
      by_cases h : a = b
      · subst h; simp
      · rw [beq_false_of_ne h]; exact (decide_eq_false (fun h2 => h (UInt8.toNat_inj.1 h2))).symm
    rw [hlt, heq]
    rcases Nat.lt_trichotomy a.toNat b.toNat with h1 | h1 | h1
    · have h2 : (0 * 10 + (a.toNat - 48) + 1) * K ≤ (0 * 10 + (b.toNat - 48)) * K := Nat.mul_le_mul_right _ (by omega)
      rw [Nat.add_mul] at h2
      have e : val 0 x + (0 * 10 + (a.toNat - 48)) * K < val 0 y + (0 * 10 + (b.toNat - 48)) * K := by omega
      simp only [h1, decide_true, Bool.true_or]
      exact (decide_eq_true (by omega)).symm
    · have n1 : ¬ a.toNat < b.toNat := by omega
      rw [h1]
      simp only [Nat.lt_irrefl, decide_false, decide_true, Bool.true_and, Bool.false_or]
      congr 1
      simp
    · have h2 : (0 * 10 + (b.toNat - 48) + 1) * K ≤ (0 * 10 + (a.toNat - 48)) * K := Nat.mul_le_mul_right _ (by omega)
      rw [Nat.add_mul] at h2
      have n1 : ¬ a.toNat < b.toNat := by omega
      have n2 : ¬ a.toNat = b.toNat := by omega
      simp only [n1, n2, decide_false, Bool.false_and, Bool.or_false]
      exact (decide_eq_false (by omega)).symm
theorem file_less {a b : Nat} (ha : a < 18446744073709551616) (hb : b < 18446744073709551616) : Op.bytesLess (fileL a) (fileL b) = decide (a < b) := by
  unfold fileL
  rw [less_suffix _ _ _ (by rw [num20_len ha, num20_len hb]), less_val _ _ (num20_dig a) (num20_dig b) (by rw [num20_len ha, num20_len hb]), num20_val, num20_val]
theorem file_inj {a b : Nat} (h : fileL a = fileL b) : a = b := by
  have h2 := List.append_inj_left' h rfl
  rw [← num20_val a, h2, num20_val]
theorem dig_ne45 {c : UInt8} (h : dig c) : c ≠ 45 := by rintro rfl; unfold dig at h; revert h; decide
/-- What stands behind the last line, and what before it. -/
theorem last45 : ∀ (a b x y : List UInt8), (∀ c ∈ x, c ≠ 45) → (∀ c ∈ y, c ≠ 45) → a ++ 45 :: x = b ++ 45 :: y → a = b ∧ x = y
  | [], [], x, y, _, _, h => ⟨rfl, by simpa using h⟩
  | [], c :: b, x, y, hx, hy, h => by
    simp only [List.nil_append, List.cons_append, List.cons.injEq] at h
    exact absurd rfl (hx 45 (by rw [h.2]; simp))
  | c :: a, [], x, y, hx, hy, h => by
    simp only [List.nil_append, List.cons_append, List.cons.injEq] at h
    exact absurd rfl (hy 45 (by rw [← h.2]; simp))
  | c :: a, d :: b, x, y, hx, hy, h => by
    simp only [List.cons_append, List.cons.injEq] at h
    obtain ⟨h1, h2⟩ := last45 a b x y hx hy h.2
    exact ⟨by rw [h.1, h1], h2⟩
theorem dir_inj {s t : List UInt8} {p q : Nat} (h : dirL s p = dirL t q) : s = t ∧ p = q := by
  obtain ⟨h1, h2⟩ := last45 _ _ _ _ (fun c hc => dig_ne45 (decDigits_dig p c hc)) (fun c hc => dig_ne45 (decDigits_dig q c hc)) h
  exact ⟨h1, by rw [← val_dec p, h2, val_dec]⟩
/-- A segment's path. -/
def pathL (t : List UInt8) (p b : Nat) : List UInt8 := dirL t p ++ 47 :: fileL b
theorem path_inj {s t : List UInt8} {p q a b : Nat} (ha : a < 18446744073709551616) (hb : b < 18446744073709551616) (h : pathL s p a = pathL t q b) : s = t ∧ p = q ∧ a = b := by
  have h2 := List.append_inj' h (by simp [fileL_len ha, fileL_len hb])
  obtain ⟨e1, e2⟩ := dir_inj h2.1
  exact ⟨e1, e2, file_inj (List.cons.inj h2.2).2⟩
theorem path_less {s : List UInt8} {p a b : Nat} (ha : a < 18446744073709551616) (hb : b < 18446744073709551616) : Op.bytesLess (pathL s p a) (pathL s p b) = decide (a < b) := by
  unfold pathL
  rw [less_prefix, show (47 : UInt8) :: fileL a = [47] ++ fileL a from rfl, show (47 : UInt8) :: fileL b = [47] ++ fileL b from rfl, less_prefix, file_less ha hb]
theorem dirL_len {t : List UInt8} {p : Nat} : (dirL t p).length = t.length + 1 + Lib.nDigits p := by unfold dirL; rw [List.length_append, List.length_cons, Lib.decDigits_length]; omega
theorem nd10 {p : Nat} (h : p < 2147483648) : Lib.nDigits p ≤ 10 := by
  by_cases h0 : p < 10
  · rw [Lib.nDigits_small h0]; decide
  · have h1 := Lib.nDigits_pos p
    have key : ∀ k u : Nat, u < 10 ^ (k + 1) → Lib.nDigits u ≤ k + 1 := by
      intro k
      induction k with
      | zero => intro u hu; rw [Lib.nDigits_small (by simpa using hu)]; exact Nat.le_refl _
      | succ k ih =>
        intro u hu
        by_cases h : u < 10
        · rw [Lib.nDigits_small h]; omega
        · rw [Lib.nDigits_big h]
          have := ih (u / 10) (by rw [Nat.pow_succ] at hu; omega)
          omega
    exact key 9 p (by omega)
theorem itoa_nat (u : Nat) : Lib.itoa (u : Int) = Lib.decDigits u := by unfold Lib.itoa; rw [if_neg (by omega)]; simp
theorem rep48 (k : Nat) : Lib.repeatL [48] k = List.replicate k 48 := by
  have := Lib.repeatL_replicate 48 1 k
  simpa using this
/-- The place of the last line. -/
theorem lastIdx_dir (t : List UInt8) (p : Nat) : Lib.lastIndexByte ⟨(dirL t p).toArray⟩ 45 = (t.length : Int) := by
  have hs : (⟨(dirL t p).toArray⟩ : ByteArray).size = (dirL t p).length := by show (dirL t p).toArray.size = _; simp
  have at_ : ∀ j, j < (dirL t p).length → ((⟨(dirL t p).toArray⟩ : ByteArray).data[j]!) = (dirL t p)[j]! := by
    intro j hj
    show (dirL t p).toArray[j]! = _
    rw [getElem!_pos (dirL t p).toArray j (by simpa using hj), getElem!_pos (dirL t p) j hj]
    simp
  have h45 : ((dirL t p)[t.length]!) = 45 := by
    rw [getElem!_pos (dirL t p) t.length (by rw [dirL_len]; omega)]
    simp [dirL]
  have hbeh : ∀ j, t.length < j → j < (dirL t p).length → ((dirL t p)[j]!) ≠ 45 := by
    intro j h1 h2
    rw [getElem!_pos (dirL t p) j h2]
    obtain ⟨i, rfl⟩ : ∃ i, j = t.length + 1 + i := ⟨j - t.length - 1, by omega⟩
    have : (dirL t p)[t.length + 1 + i] ∈ Lib.decDigits p := by
      have hi : i < (Lib.decDigits p).length := by rw [dirL_len] at h2; rw [Lib.decDigits_length]; omega
      have e : (dirL t p)[t.length + 1 + i] = (Lib.decDigits p)[i] := by
        have e2 : dirL t p = (t ++ [45]) ++ Lib.decDigits p := by simp [dirL]
        have : (dirL t p)[t.length + 1 + i]? = some (Lib.decDigits p)[i] := by
          have e3 : t.length + 1 + i - (t ++ [(45 : UInt8)]).length = i := by rw [List.length_append]; show t.length + 1 + i - (t.length + 1) = i; omega
          rw [e2, List.getElem?_append_right (by simp), e3, List.getElem?_eq_getElem hi]
        rw [List.getElem?_eq_getElem h2] at this
        exact Option.some.inj this
      rw [e]
      exact List.getElem_mem hi
    exact dig_ne45 (decDigits_dig p _ this)
  have n45 : ∀ c : UInt8, (c.toNat : Int) = 45 ↔ c = 45 := fun c => ⟨fun h => by
    have : c.toNat = (45 : UInt8).toNat := by show c.toNat = 45; omega
    exact UInt8.toNat_inj.1 this, fun h => by rw [h]; rfl⟩
  rcases Lib.lastIndexByte_spec ⟨(dirL t p).toArray⟩ 45 with ⟨_, h⟩ | ⟨i, h1, h2, h3, h4⟩
  · exact absurd ((n45 _).2 (by rw [at_ t.length (by rw [dirL_len]; omega)]; exact h45)) (h t.length (by rw [hs, dirL_len]; omega))
  · rw [hs] at h1 h4
    rw [at_ i h1, n45] at h3
    rcases Nat.lt_trichotomy i t.length with h5 | h5 | h5
    · exact absurd ((n45 _).2 (by rw [at_ t.length (by rw [dirL_len]; omega)]; exact h45)) (h4 t.length h5 (by rw [dirL_len]; omega))
    · rw [h2, h5]
    · exact absurd h3 (hbeh i h5 h1)
theorem dir_take (t : List UInt8) (p : Nat) : (dirL t p).take t.length = t := by simp [dirL]
theorem dir_drop (t : List UInt8) (p : Nat) : (dirL t p).drop (t.length + 1) = Lib.decDigits p := by
  have e2 : dirL t p = (t ++ [45]) ++ Lib.decDigits p := by simp [dirL]
  rw [e2, List.drop_left' (by simp)]
end Go.Proofs.YtjpgpkkbmoehdaaDoor.Ra.Nm
