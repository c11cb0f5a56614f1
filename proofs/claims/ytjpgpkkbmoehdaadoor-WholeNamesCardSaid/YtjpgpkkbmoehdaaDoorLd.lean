/- label.Topic, Dir, UnDir, File, UnFile in the machine. -/
import Derived.Test.YtjpgpkkbmoehdaaDoorLc
namespace Go.Proofs.YtjpgpkkbmoehdaaDoor.Ra.Nm
open Go Go.Shelf Go.RowKit
set_option linter.unusedVariables false
set_option linter.unusedSimpArgs false
theorem letter_calls (c : UInt8) (h : okB c) (w : World) : Calls Tryd.prog 24 #[.int .i32 c.toNat] w fun e w' => e = .returned (.bool true) ∧ w' = w := by
  unfold okB at h
  generalize c.toNat = n at h
  go_enter Tryd.func24, Tryd.ntmps24
  go_wp2
  all_goals first
    | (go_ret; exact ⟨rfl, rfl⟩)
    | skip
  have : n = 45 := by omega
  subst this
  go_ret
  exact ⟨rfl, rfl⟩
set_option maxHeartbeats 6400000 in
set_option maxRecDepth 100000 in
theorem topic_calls (s : ByteArray) (h : OkT s.data.toList) (w : World) : Calls Tryd.prog 12 #[.string s] w fun e w' => e = .returned (.int .i64 0) ∧ Below w.heap.size w w' := by
  go_enter Tryd.func12, Tryd.ntmps12
  go_wp2
  all_goals (
    have sz : s.size = s.data.toList.length := Lib.size_eq s
    have e0 : s.toList ≠ [] := by rw [Lib.toList_data]; intro h0; have := h.lo; rw [h0] at this; cases this
    have e1 : s.toList ≠ [46] := by rw [Lib.toList_data]; exact h.d1
    have e2 : s.toList ≠ [46, 46] := by rw [Lib.toList_data]; exact h.d2
    have hi : s.size ≤ 64 := by rw [sz]; exact h.hi
    first
    | (exact absurd (by assumption) e0)
    | (exact absurd (by assumption) e1)
    | (exfalso; simp [e0, e1, e2] at *; done)
    | (exfalso; omega)
    | (clear e0 e1 e2 hi sz))
  obtain ⟨⟨b1, b2⟩, b3⟩ : (s.toList.isEmpty = false ∧ (s.toList == [46]) = false) ∧ (s.toList == [46, 46]) = false := by assumption
  simp only [b1, b2, b3, Bool.or_self]
  go_loopw [4] (fun _ wr => ∃ pos : Nat, wr.heap[w.heap.size]? = some (.stringIter s pos) ∧ Below w.heap.size w wr) (fun _ wr => s.size - wr.iterPos w.heap.size)
  case atStart => exact ⟨0, World.iter_heap w s 0, (Below.refl _ w).alloc (Nat.le_refl _) _⟩
  case round =>
    obtain ⟨pos, hit, hbw⟩ := hrel
    by_cases hp : pos < s.size
    · have hb : okB (s[pos]'hp) := h.b _ (by
        have : s[pos]'hp = s.data[pos]'hp := rfl
        rw [this]
        exact Array.getElem_mem_toList _)
      have hnx : ∀ ty, (Instr.next (.pointer (some ⟨w.heap.size, 0, none⟩)) true ty).run Tryd.prog wr = _ := fun ty => Lib.run_next_ascii_at wr w.heap.size s pos ty hit hp (okB_ascii hb)
      have hit2 := Lib.iterAt_heap wr w.heap.size s pos (pos + 1) hit
      have hbw2 := Lib.below_iterAt hbw (k := w.heap.size) (Nat.le_refl _) s (pos + 1)
      have hlc := letter_calls _ hb (wr.iterAt w.heap.size s (pos + 1))
      generalize (s[pos]'hp).toNat = c at hnx hlc
      go_wp2_with (go_at_call 24; refine hlc.mono ?_; rintro e w1 ⟨rfl, rfl⟩)
      go_roundw
      case rel => first | exact ⟨pos + 1, hit2, hbw2⟩ | ((repeat apply Exists.intro); exact ⟨⟨pos + 1, hit2, hbw2⟩, rfl⟩)
      case measure =>
        simp only [World.iterPos, hit2, hit]
        omega
    · have hnx : ∀ ty, (Instr.next (.pointer (some ⟨w.heap.size, 0, none⟩)) true ty).run Tryd.prog wr = _ := fun ty => Lib.run_next_end_at wr w.heap.size s pos ty hit hp
      go_wp2
      go_ret
      exact ⟨rfl, hbw⟩
theorem str_ext {a b : ByteArray} (h : a.data.toList = b.data.toList) : a = b := by
  cases a; cases b
  simp only [ByteArray.mk.injEq]
  exact Array.toList_inj.1 h
theorem str_app (a b : ByteArray) : (a ++ b).data.toList = a.data.toList ++ b.data.toList := by simp
theorem mk_size (l : List UInt8) : (⟨l.toArray⟩ : ByteArray).size = l.length := by show l.toArray.size = _; simp
set_option maxRecDepth 100000 in
theorem dir_calls (s : ByteArray) (h : OkT s.data.toList) (p : Nat) (hp : p < 2147483648) (w : World) (ht : Tens w) : Calls Tryd.prog 4 #[.string s, .int .i32 p] w fun e w' => e = .returned (.tuple #[.string ⟨(dirL s.data.toList p).toArray⟩, .int .i64 0]) ∧ Below w.heap.size w w' := by
  have hp0 : ¬ ((p : Int) < 0) := by omega
  have hwp : IntKind.i64.wrap (p : Int) = p := by rw [IntKind.wrap_i64]; omega
  have hs1 : s.size ≤ 64 := by rw [Lib.size_eq]; exact h.hi
  have hd := mk_size (Lib.decDigits p)
  rw [Lib.decDigits_length] at hd
  have hd2 := nd10 hp
  have ht1 : ∀ w1, Below w.heap.size w w1 → Tens w1 := fun w1 hb => ht.up hb
  have hres : ∀ x : ByteArray, x = ⟨(Lib.decDigits p).toArray⟩ → s ++ ⟨#[45]⟩ ++ x = ⟨(dirL s.data.toList p).toArray⟩ := by
    rintro x rfl
    apply str_ext
    rw [str_app, str_app]
    simp [dirL]
  obtain ⟨D, hD⟩ : ∃ D : ByteArray, D = ⟨(Lib.decDigits p).toArray⟩ := ⟨_, rfl⟩
  have hit : ∀ w1, Tens w1 → Calls Tryd.prog 13 #[.int .i64 p] w1 fun e w' => e = .returned (.string D) ∧ Below w1.heap.size w1 w' := by rw [hD]; exact fun w1 h1 => itoa_calls p (by omega) w1 h1
  have hres2 := hres D hD
  rw [← hD] at hd
  clear hres hD
  go_enter Tryd.func4, Tryd.ntmps4
  go_wp2_with (first | (go_at_call 12; refine (topic_calls s h _).mono ?_; rintro e w1 ⟨rfl, b1⟩) | (go_at_call 13; refine (hit _ (ht1 _ b1)).mono ?_; rintro e w2 ⟨rfl, b2⟩))
  go_ret2
  exact ⟨rfl, b1.trans (b2.mono b1.size)⟩
set_option maxRecDepth 100000 in
theorem file_calls (b : Nat) (hb : b ≤ 4611686018427387904) (w : World) (ht : Tens w) : Calls Tryd.prog 5 #[.int .i64 b] w fun e w' => e = .returned (.tuple #[.string ⟨(fileL b).toArray⟩, .int .i64 0]) ∧ Below w.heap.size w w' := by
  have hb0 : ¬ ((b : Int) < 0) := by omega
  have hb1 : ¬ ((b : Int) > 4611686018427387904) := by omega
  have hd := mk_size (Lib.decDigits b)
  rw [Lib.decDigits_length] at hd
  have hd2 := nd20 (b := b) (by omega)
  have ht1 : ∀ w1, Below w.heap.size w w1 → Tens w1 := fun w1 hb => ht.up hb
  have hres : ∀ x : ByteArray, x = ⟨(Lib.decDigits b).toArray⟩ → ⟨(List.replicate (20 - Lib.nDigits b) (48 : UInt8)).toArray⟩ ++ x ++ ⟨#[46, 108, 111, 103]⟩ = (⟨(fileL b).toArray⟩ : ByteArray) := by
    rintro x rfl
    apply str_ext
    rw [str_app, str_app]
    simp [fileL, num20]
  obtain ⟨D, hD⟩ : ∃ D : ByteArray, D = ⟨(Lib.decDigits b).toArray⟩ := ⟨_, rfl⟩
  have hit : ∀ w1, Tens w1 → Calls Tryd.prog 14 #[.int .i64 b, .int .i64 10] w1 fun e w' => e = .returned (.string D) ∧ Below w1.heap.size w1 w' := by rw [hD]; exact fun w1 h1 => fmt_calls b (by omega) w1 h1
  have hres2 := hres D hD
  rw [← hD] at hd
  clear hres hD
  have hk : IntKind.i64.wrap (20 - (D.size : Int)) = ((20 - Lib.nDigits b : Nat) : Int) := by rw [IntKind.wrap_i64, hd]; omega
  obtain ⟨K, hK⟩ : ∃ K, 20 - Lib.nDigits b = K := ⟨_, rfl⟩
  have hK2 : K ≤ 20 := by omega
  rw [hK] at hk hres2
  have hrep := fun w1 => rep_calls K hK2 w1
  obtain ⟨Z, hZ⟩ : ∃ Z : ByteArray, Z = ⟨(List.replicate K (48 : UInt8)).toArray⟩ := ⟨_, rfl⟩
  have hZs : Z.size ≤ 20 := by rw [hZ, mk_size, List.length_replicate]; exact hK2
  rw [← hZ] at hres2 hrep
  have hDs : D.size ≤ 20 := by omega
  clear hZ hK hd hd2
  go_enter Tryd.func5, Tryd.ntmps5
  go_wp2_with (first | (go_at_call 14; refine (hit _ ht).mono ?_; rintro e w1 ⟨rfl, b1⟩) | (go_at_call 15; refine (hrep _).mono ?_; rintro e w2 ⟨rfl, b2⟩))
  go_ret2
  exact ⟨rfl, b1.trans (b2.mono b1.size)⟩
theorem dirL_size {l : List UInt8} (h : OkT l) {p : Nat} (hp : p < 2147483648) : (⟨(dirL l p).toArray⟩ : ByteArray).size ≤ 75 := by
  rw [mk_size, dirL_len]
  have := nd10 hp
  have := h.hi
  omega
set_option maxRecDepth 100000 in
theorem undir_calls (s : ByteArray) (h : OkT s.data.toList) (p : Nat) (hp : p < 2147483648) (w : World) (ht : Tens w) : Calls Tryd.prog 9 #[.string ⟨(dirL s.data.toList p).toArray⟩] w fun e w' => e = .returned (.tuple #[.string s, .int .i32 p, .int .i64 0]) ∧ Below w.heap.size w w' := by
  have ht1 : ∀ w1, Below w.heap.size w w1 → Tens w1 := fun w1 hb => ht.up hb
  have hdir := fun w1 (h1 : Tens w1) => dir_calls s h p hp w1 h1
  have hsz := dirL_size h hp
  have hl := lastIdx_dir s.data.toList p
  have hpar := fun w1 => parse32_calls ⟨(Lib.decDigits p).toArray⟩ (by rw [mk_size, Lib.decDigits_length]; have := nd10 hp; omega) p (by simpa using parse32 hp) w1
  have hls := last_calls ⟨(dirL s.data.toList p).toArray⟩ (by omega)
  have e1 : (⟨(dirL s.data.toList p).toArray⟩ : ByteArray).extract 0 s.size = s := by
    apply str_ext
    rw [Lib.extract_data, List.drop_zero]
    have := dir_take s.data.toList p
    rw [← Lib.size_eq s] at this
    simpa using this
  have e2 : (⟨(dirL s.data.toList p).toArray⟩ : ByteArray).extract (s.size + 1) (⟨(dirL s.data.toList p).toArray⟩ : ByteArray).size = ⟨(Lib.decDigits p).toArray⟩ := by
    apply str_ext
    rw [Lib.extract_data]
    have := dir_drop s.data.toList p
    rw [← Lib.size_eq s] at this
    simp only [this]
    rw [List.take_of_length_le]
    have e := mk_size (dirL s.data.toList p)
    have e2 := Lib.size_eq s
    rw [dirL_len] at e
    rw [Lib.decDigits_length]
    omega
  have hlt : s.size + 1 ≤ (⟨(dirL s.data.toList p).toArray⟩ : ByteArray).size := by
    have e := mk_size (dirL s.data.toList p)
    have e2 := Lib.size_eq s
    rw [dirL_len] at e
    omega
  rw [← Lib.size_eq s] at hl
  rw [hl] at hls
  clear hl
  generalize (⟨(dirL s.data.toList p).toArray⟩ : ByteArray) = S at *
  generalize (⟨(Lib.decDigits p).toArray⟩ : ByteArray) = D at *
  have hs64 : s.size ≤ 64 := by rw [Lib.size_eq]; exact h.hi
  have w0 : ¬ ((s.size : Int) < 0) := by omega
  have wp : IntKind.i32.wrap (p : Int) = p := by rw [IntKind.wrap_i32]; omega
  generalize s.size = n at *
  have hlt2 : (n : Int) + 1 ≤ S.size := by omega
  have hlt3 : (n : Int) ≤ S.size := by omega
  have hn0 : 0 ≤ (n : Int) + 1 := by omega
  go_enter Tryd.func9, Tryd.ntmps9
  go_wp2_with (first | (go_at_call 18; refine (hls _).mono ?_; rintro e w1 ⟨rfl, rfl⟩) | (go_at_call 19; refine (hpar _).mono ?_; rintro e w1 ⟨rfl, b1⟩) | (go_at_call 4; refine (hdir _ (ht1 _ b1)).mono ?_; rintro e w2 ⟨rfl, b2⟩))
  go_ret3
  exact ⟨rfl, b1.trans (b2.mono b1.size)⟩
set_option maxRecDepth 100000 in
theorem unfile_calls (b : Nat) (hb : b ≤ 4611686018427387904) (w : World) (ht : Tens w) : Calls Tryd.prog 10 #[.string ⟨(fileL b).toArray⟩] w fun e w' => e = .returned (.tuple #[.int .i64 b, .int .i64 0]) ∧ Below w.heap.size w w' := by
  have ht1 : ∀ w1, Below w.heap.size w w1 → Tens w1 := fun w1 hb => ht.up hb
  have hfile := fun w1 (h1 : Tens w1) => file_calls b hb w1 h1
  have hlen : (fileL b).length = 24 := fileL_len (by omega)
  have hn := num20_len (b := b) (by omega)
  have hcut := cut_calls ⟨(fileL b).toArray⟩ (by rw [mk_size, hlen]; decide)
  have e0 : (⟨(fileL b).toArray⟩ : ByteArray).data.toList = fileL b := by simp
  have e1 : Lib.hasSuffix (fileL b) [46, 108, 111, 103] = true := by
    unfold Lib.hasSuffix
    rw [List.isSuffixOf_iff_suffix]
    exact ⟨num20 b, rfl⟩
  have e2 : Lib.trimSuffix (fileL b) [46, 108, 111, 103] = num20 b := by
    unfold Lib.trimSuffix
    rw [if_pos e1, hlen]
    unfold fileL
    exact List.take_left' hn
  rw [e0, e1, e2] at hcut
  have hpar := fun w1 => parse64_calls ⟨(num20 b).toArray⟩ (by rw [mk_size, hn]; decide) b (by simpa using parse20 hb) w1
  have hN := mk_size (num20 b)
  rw [hn] at hN
  clear e0 e1 e2 hlen hn
  generalize (⟨(fileL b).toArray⟩ : ByteArray) = S at *
  generalize (⟨(num20 b).toArray⟩ : ByteArray) = N at *
  go_enter Tryd.func10, Tryd.ntmps10
  go_wp2_with (first | (go_at_call 20; refine (hcut _).mono ?_; rintro e w1 ⟨rfl, rfl⟩) | (go_at_call 19; refine (hpar _).mono ?_; rintro e w1 ⟨rfl, b1⟩) | (go_at_call 5; refine (hfile _ (ht1 _ b1)).mono ?_; rintro e w2 ⟨rfl, b2⟩))
  go_ret2
  exact ⟨rfl, b1.trans (b2.mono b1.size)⟩
end Go.Proofs.YtjpgpkkbmoehdaaDoor.Ra.Nm
