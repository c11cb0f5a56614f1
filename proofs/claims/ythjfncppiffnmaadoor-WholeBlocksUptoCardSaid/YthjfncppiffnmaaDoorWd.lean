/- press: hash, the chains: length. -/
import Derived.Test.YthjfncppiffnmaaDoorWc
namespace Go.Proofs.YthjfncppiffnmaaDoor.Ra
open Go Go.RowKit Pn
set_option linter.unusedVariables false
set_option linter.unusedSimpArgs false
set_option maxRecDepth 10000
/-- The hash of four bytes. -/
def hsh (a b c d : Int) : Int := (IntKind.u32.wrap (bits .or .u32 (bits .or .u32 (bits .or .u32 (IntKind.u32.wrap a) (IntKind.u32.wrap (IntKind.u32.wrap b * 2 ^ 8))) (IntKind.u32.wrap (IntKind.u32.wrap c * 2 ^ 16))) (IntKind.u32.wrap (IntKind.u32.wrap d * 2 ^ 24)) * 2654435761)).fdiv (2 ^ 20)
theorem hsh_in (a b c d : Int) : 0 ≤ hsh a b c d ∧ hsh a b c d < 4096 := by
  unfold hsh
  generalize bits .or .u32 (bits .or .u32 (bits .or .u32 (IntKind.u32.wrap a) (IntKind.u32.wrap (IntKind.u32.wrap b * 2 ^ 8))) (IntKind.u32.wrap (IntKind.u32.wrap c * 2 ^ 16))) (IntKind.u32.wrap (IntKind.u32.wrap d * 2 ^ 24)) * 2654435761 = x
  have h : 0 ≤ IntKind.u32.wrap x ∧ IntKind.u32.wrap x < 4294967296 := by
    have e : IntKind.u32.wrap x = x % 4294967296 := by simp [IntKind.wrap, IntKind.bits, IntKind.signed]
    rw [e]
    omega
  rw [Int.fdiv_eq_ediv_of_nonneg _ (by omega)]
  omega
/-- .. from the q-th on. -/
def hsq (b : List Int) (q : Nat) : Nat := (hsh (b.getD q 0) (b.getD (q + 1) 0) (b.getD (q + 2) 0) (b.getD (q + 3) 0)).toNat
theorem hsq_lt (b : List Int) (q : Nat) : hsq b q < 4096 := by
  have := hsh_in (b.getD q 0) (b.getD (q + 1) 0) (b.getD (q + 2) 0) (b.getD (q + 3) 0)
  unfold hsq
  omega
theorem hsq_eq (b : List Int) {p i : Nat} (h : 4 ≤ lcp b 131 p i) : hsq b p = hsq b i := by
  have h0 := lcp_eq b 131 p i 0 (by omega)
  have h1 := lcp_eq b 131 p i 1 (by omega)
  have h2 := lcp_eq b 131 p i 2 (by omega)
  have h3 := lcp_eq b 131 p i 3 (by omega)
  unfold hsq
  rw [← h1, ← h2, ← h3]
  rw [show b.getD p 0 = b.getD i 0 from h0]
abbrev u32 (x : Int) : AV := .pl (.int .u32 x)
abbrev i32 (x : Int) : AV := .pl (.int .i32 x)
theorem hash_ok {st : St} (hw : WF st) {K : Nat → Prop} {v : AV} {b : List Int} (h : RdB st K v b) (hl : 4 ≤ b.length) :
    ACalls Tryd.prog 32 [v] st (fun r s => Ext st s ∧ r = u32 (hsq b 0)) := by
  have hvs := h.solid
  obtain ⟨p0, a0, b0, c0⟩ := h.at .i64 0 (by omega) (by omega)
  replace c0 : aload Tryd.prog st 5 p0 = some (u8 (b.getD 0 0)) := c0
  obtain ⟨p1, a1, b1, c1⟩ := h.at .i64 1 (by omega) (by omega)
  replace c1 : aload Tryd.prog st 5 p1 = some (u8 (b.getD 1 0)) := c1
  obtain ⟨p2, a2, b2, c2⟩ := h.at .i64 2 (by omega) (by omega)
  replace c2 : aload Tryd.prog st 5 p2 = some (u8 (b.getD 2 0)) := c2
  obtain ⟨p3, a3, b3, c3⟩ := h.at .i64 3 (by omega) (by omega)
  replace c3 : aload Tryd.prog st 5 p3 = some (u8 (b.getD 3 0)) := c3
  refine acalls_of Tryd.func32 rfl (by kernel_rfl) (by simp [hvs]) ?_
  have hcv : ∀ (st : St) (id : Nat) (x : Int), aconvert Tryd.prog st id 5 41 (.pl (.int .u8 x)) = some (.pl (.int .u32 (IntKind.u32.wrap x)), st) := fun st id x => conv_int u5 Tryd.underlying41 st id .u8 x
  repeat (first | (refine aw_seq ?_) | (refine aw_reg0 (by simp only [SZ, Nat.reduceAdd]; exact rfl) ?_) | (refine aw_reg (by decide +kernel) (by simp only [SZ, Nat.reduceAdd]; exact rfl) ?_) | (refine aw_regS (by decide +kernel) (by simp only [SZ, Nat.reduceAdd]; exact rfl) ?_) | (refine arl_nil ?_) | (refine aw_skip ?_) | (refine aw_block ?_) | (refine aw_exit ?_) | (refine aw_ret ?_) | (refine arl_cons rfl rfl (by simp +decide only [aop, abuiltin, aeval, aintBin, bin_int, aload_bump, SS, reduceIte, reduceCtorEq, a0, a1, a2, a3, c0, c1, c2, c3, hcv]; exact rfl) (by first | rfl | with_reducible assumption) rfl ?_) | (refine arl_none rfl rfl (by simp +decide only [aop, abuiltin, aeval, aintBin, bin_int, aload_bump, SS, reduceIte, reduceCtorEq, a0, a1, a2, a3, c0, c1, c2, c3, hcv]; exact rfl) rfl rfl ?_) | (refine arl_off rfl rfl ?_) | (refine aw_condT (by simp +decide only [aop, abuiltin, aeval, aintBin, bin_int, aload_bump, SS, reduceIte, reduceCtorEq, a0, a1, a2, a3, c0, c1, c2, c3, hcv]; first | done | exact rfl) ?_) | (refine aw_condF (by simp +decide only [aop, abuiltin, aeval, aintBin, bin_int, aload_bump, SS, reduceIte, reduceCtorEq, a0, a1, a2, a3, c0, c1, c2, c3, hcv]; first | done | exact rfl) ?_))
  refine ⟨.inr rfl, _, rfl, (by repeat (first | exact Keeps.refl _ _ | (refine Keeps.bumpR ?_ _))), ?_⟩
  have := hsh_in (b.getD 0 0) (b.getD 1 0) (b.getD 2 0) (b.getD 3 0)
  have e : ((hsq b 0 : Nat) : Int) = hsh (b.getD 0 0) (b.getD 1 0) (b.getD 2 0) (b.getD 3 0) := by
    unfold hsq
    simp only [Nat.zero_add]
    omega
  rw [e]
  rfl
/-- The chains: the bytes, the last places by hash, the places before. -/
def Chn (st : St) (c g : Nat) (v : AV) (b : List Int) (bk gb n : Nat) : Prop :=
  g ≠ gb ∧ ∃ hd cs, st.get c = some ⟨v :: (hd ++ [.sl bk 0 b.length 1]), 62, true, g⟩ ∧ hd.length = 4096 ∧ (∀ h, h < 4096 → hd[h]? = some (i32 (lst b (hsq b) h n))) ∧ st.get bk = some ⟨cs, 21, true, gb⟩ ∧ cs.length = b.length ∧ ∀ q, q < n → q + 4 ≤ b.length → cs[q]? = some (i32 (lst b (hsq b) (hsq b q) q))
theorem Chn.keep {st st' : St} {G : Nat → Prop} {c g : Nat} {v : AV} {b : List Int} {bk gb n : Nat} (h : Chn st c g v b bk gb n) (hk : Keeps G st st') (h1 : ¬ G g) (h2 : ¬ G gb) : Chn st' c g v b bk gb n := by
  obtain ⟨a, hd, cs, a1, a2, a3, a4, a5, a6⟩ := h
  exact ⟨a, hd, cs, hk.get _ _ a1 h1, a2, a3, hk.get _ _ a4 h2, a5, a6⟩
theorem Chn.up {st st' : St} {c g : Nat} {v : AV} {b : List Int} {bk gb n : Nat} (h : Chn st c g v b bk gb n) (hk : Ext st st') : Chn st' c g v b bk gb n := h.keep hk (fun h => h) (fun h => h)
theorem fc0 (c : Nat) : afieldAddr Tryd.prog 62 (.ptr c 0) 0 = some (.ptr c 0) := by kernel_rfl
theorem fc1 (c : Nat) : afieldAddr Tryd.prog 62 (.ptr c 0) 1 = some (.ptr c 1) := by kernel_rfl
theorem fc2 (c : Nat) : afieldAddr Tryd.prog 62 (.ptr c 0) 2 = some (.ptr c 4097) := by kernel_rfl
theorem ucI : Tryd.prog.underlying 59 = some (.slice 21) := Tryd.underlying59
theorem ucA : Tryd.prog.underlying 60 = some (.array 4096 21) := Tryd.underlying60
theorem szcI : szOf Tryd.prog 21 = some 1 := by kernel_rfl
theorem szcB : szOf Tryd.prog 22 = some 1 := by kernel_rfl
theorem szcIs : szOf Tryd.prog 59 = some 1 := by kernel_rfl
theorem uc32 : Tryd.prog.underlying 21 = some (.int .i32) := Tryd.underlying21
theorem Chn.b {st : St} {c g : Nat} {v : AV} {b : List Int} {bk gb n : Nat} (h : Chn st c g v b bk gb n) : aload Tryd.prog st 22 (.ptr c 0) = some v := by
  obtain ⟨a, hd, cs, a1, a2, a3, a4, a5, a6⟩ := h
  exact load_at uB rfl szcB a1 rfl
theorem Chn.bk {st : St} {c g : Nat} {v : AV} {b : List Int} {bk gb n : Nat} (h : Chn st c g v b bk gb n) : aload Tryd.prog st 59 (.ptr c 4097) = some (.sl bk 0 b.length 1) := by
  obtain ⟨a, hd, cs, a1, a2, a3, a4, a5, a6⟩ := h
  refine load_at ucI rfl szcIs a1 ?_
  rw [List.getElem?_cons_succ, List.getElem?_append_right (by omega), a2]
  rfl
theorem Chn.head {st : St} {c g : Nat} {v : AV} {b : List Int} {bk gb n : Nat} (h : Chn st c g v b bk gb n) (k : IntKind) (q : Nat) (hq : q < 4096) : aindexAddr Tryd.prog 60 (.ptr c 1) (.pl (.int k q)) = some (.ptr c (1 + q)) ∧ aload Tryd.prog st 21 (.ptr c (1 + q)) = some (i32 (lst b (hsq b) q n)) := by
  obtain ⟨a, hd, cs, a1, a2, a3, a4, a5, a6⟩ := h
  refine ⟨?_, load_at uc32 rfl szcI a1 ?_⟩
  · simp only [aindexAddr, ucA, szcI]
    rw [if_pos ⟨by omega, by omega⟩]
    simp
  · rw [Nat.add_comm, List.getElem?_cons_succ, List.getElem?_append_left (by omega)]
    exact a3 q hq
theorem Chn.back {st : St} {c g : Nat} {v : AV} {b : List Int} {bk gb n : Nat} (h : Chn st c g v b bk gb n) (k : IntKind) (q : Nat) (hq : q < n) (hq4 : q + 4 ≤ b.length) : aindexAddr Tryd.prog 59 (.sl bk 0 b.length 1) (.pl (.int k q)) = some (.ptr bk q) ∧ aload Tryd.prog st 21 (.ptr bk q) = some (i32 (lst b (hsq b) (hsq b q) q)) := by
  obtain ⟨a, hd, cs, a1, a2, a3, a4, a5, a6⟩ := h
  refine ⟨?_, load_at uc32 rfl szcI a4 (a6 q hq hq4)⟩
  rw [idx_sl ucI szcI bk 0 _ 1 k q (by omega) (by omega)]
  simp
set_option maxHeartbeats 1000000 in
theorem clength_ok {st : St} (hw : WF st) {K : Nat → Prop} {v : AV} {b : List Int} {c g bk gb n : Nat} (p i : Nat) (hc : Chn st c g v b bk gb n) (h : RdB st K v b) (hl : b.length ≤ 140737488355) (hpi : p ≤ i) (hi : i ≤ b.length) :
    ACalls Tryd.prog 33 [.ptr c 0, i64 p, i64 i] st (fun r s => Ext st s ∧ r = i64 (lcp b 131 p i)) := by
  have hvs := h.solid
  have hln := h.len
  refine acalls_of Tryd.func33 rfl (by kernel_rfl) (by simp; exact ⟨rfl, rfl, rfl⟩) ?_
  repeat (first | (refine aw_seq ?_) | (refine aw_reg0 (by simp only [SZ, Nat.reduceAdd]; exact rfl) ?_) | (refine aw_reg (by decide +kernel) (by simp only [SZ, Nat.reduceAdd]; exact rfl) ?_) | (refine aw_regS (by decide +kernel) (by simp only [SZ, Nat.reduceAdd]; exact rfl) ?_) | (refine arl_nil ?_) | (refine aw_skip ?_) | (refine aw_block ?_) | (refine aw_exit ?_) | (refine aw_ret ?_) | (refine arl_cons rfl rfl (by simp +decide only [aop, abuiltin, aeval, aintBin, bin_int, aload_bump, SS, reduceIte, reduceCtorEq]; exact rfl) (by first | rfl | with_reducible assumption) rfl ?_) | (refine arl_none rfl rfl (by simp +decide only [aop, abuiltin, aeval, aintBin, bin_int, aload_bump, SS, reduceIte, reduceCtorEq]; exact rfl) rfl rfl ?_) | (refine arl_off rfl rfl ?_) | (refine aw_condT (by simp +decide only [aop, abuiltin, aeval, aintBin, bin_int, aload_bump, SS, reduceIte, reduceCtorEq]; first | done | exact rfl) ?_) | (refine aw_condF (by simp +decide only [aop, abuiltin, aeval, aintBin, bin_int, aload_bump, SS, reduceIte, reduceCtorEq]; first | done | exact rfl) ?_))
  obtain ⟨X, hX⟩ : ∃ X, lcp b 131 p i = X := ⟨_, rfl⟩
  rw [hX]
  refine aw_rounds_wf (fun m fr s => Ext st s ∧ ∃ (n : Nat), n ≤ 131 ∧ m = 131 - n ∧ i + n ≤ b.length ∧ fr 0 = .ptr c 0 ∧ fr 1 = i64 p ∧ fr 2 = i64 i ∧ fr 7 = i64 n ∧ X = lcp b (131 - n) (p + n) (i + n) + n) ?_ 131 _ _ (by repeat (first | assumption | (refine WF.bump ?_ _))) ?_
  · rintro m fr s hws ⟨hE, n, hn, rfl, hin, f0, f1, f2, f7, hlc⟩
    have hEn := hE.n
    have hcb := (hc.up hE).b
    have hwi : IntKind.i64.wrap ((i : Int) + (n : Int)) = ((i + n : Nat) : Int) := by rw [wrap64_of (by omega) (by omega)]; omega
    by_cases h131 : n < 131
    · have d1 : decide ((n : Int) < 131) = true := decide_eq_true (by omega)
      obtain ⟨q, hq⟩ : ∃ q, 131 - n = q + 1 := ⟨131 - n - 1, by omega⟩
      rw [hq, lcp] at hlc
      by_cases hlt : i + n < b.length
      · have d2 : decide (((i + n : Nat) : Int) < (b.length : Int)) = true := decide_eq_true (by omega)
        have hwp : IntKind.i64.wrap ((p : Int) + (n : Int)) = ((p + n : Nat) : Int) := by rw [wrap64_of (by omega) (by omega)]; omega
        obtain ⟨x, a1, a2, a3⟩ := (h.up hE).atN .i64 (p + n) (by omega)
        obtain ⟨y, b1, b2, b3⟩ := (h.up hE).atN .i64 (i + n) hlt
        have hwk := wrap_succ (k := n) (by omega)
        rw [getD_in hlt, getD_in (show p + n < b.length by omega)] at hlc
        by_cases he : b[p + n] = b[i + n]
        · have q1 : (b[p + n] == b[i + n]) = true := by simp [he]
          rw [if_pos ⟨hlt, he⟩] at hlc
          repeat (first | (refine aw_seq ?_) | (refine aw_reg0 (by simp only [SZ, Nat.reduceAdd]; exact rfl) ?_) | (refine aw_reg (by decide +kernel) (by simp only [SZ, Nat.reduceAdd]; exact rfl) ?_) | (refine aw_regS (by decide +kernel) (by simp only [SZ, Nat.reduceAdd]; exact rfl) ?_) | (refine arl_nil ?_) | (refine aw_skip ?_) | (refine aw_block ?_) | (refine aw_exit ?_) | (refine aw_ret ?_) | (refine arl_cons rfl rfl (by simp +decide only [aop, abuiltin, aeval, aintBin, bin_int, aload_bump, SS, reduceIte, reduceCtorEq, f7, d1, f0, fc0, hcb, hln, f2, hwi, d2, f1, hwp, a1, a3, b1, b3, q1, hwk]; exact rfl) (by first | rfl | with_reducible assumption) rfl ?_) | (refine arl_none rfl rfl (by simp +decide only [aop, abuiltin, aeval, aintBin, bin_int, aload_bump, SS, reduceIte, reduceCtorEq, f7, d1, f0, fc0, hcb, hln, f2, hwi, d2, f1, hwp, a1, a3, b1, b3, q1, hwk]; exact rfl) rfl rfl ?_) | (refine arl_off rfl rfl ?_) | (refine aw_condT (by simp +decide only [aop, abuiltin, aeval, aintBin, bin_int, aload_bump, SS, reduceIte, reduceCtorEq, f7, d1, f0, fc0, hcb, hln, f2, hwi, d2, f1, hwp, a1, a3, b1, b3, q1, hwk]; first | done | exact rfl) ?_) | (refine aw_condF (by simp +decide only [aop, abuiltin, aeval, aintBin, bin_int, aload_bump, SS, reduceIte, reduceCtorEq, f7, d1, f0, fc0, hcb, hln, f2, hwi, d2, f1, hwp, a1, a3, b1, b3, q1, hwk]; first | done | exact rfl) ?_))
          refine ⟨131 - (n + 1), by omega, hE.trans (by repeat (first | exact Keeps.refl _ _ | (refine Keeps.bumpR ?_ _))), n + 1, by omega, rfl, by omega, f0, f1, f2, rfl, ?_⟩
          rw [hlc, show 131 - (n + 1) = q by omega, show p + (n + 1) = p + n + 1 by omega, show i + (n + 1) = i + n + 1 by omega]
          omega
        · have q1 : (b[p + n] == b[i + n]) = false := by simp [he]
          rw [if_neg (fun h => he h.2)] at hlc
          repeat (first | (refine aw_seq ?_) | (refine aw_reg0 (by simp only [SZ, Nat.reduceAdd]; exact rfl) ?_) | (refine aw_reg (by decide +kernel) (by simp only [SZ, Nat.reduceAdd]; exact rfl) ?_) | (refine aw_regS (by decide +kernel) (by simp only [SZ, Nat.reduceAdd]; exact rfl) ?_) | (refine arl_nil ?_) | (refine aw_skip ?_) | (refine aw_block ?_) | (refine aw_exit ?_) | (refine aw_ret ?_) | (refine arl_cons rfl rfl (by simp +decide only [aop, abuiltin, aeval, aintBin, bin_int, aload_bump, SS, reduceIte, reduceCtorEq, f7, d1, f0, fc0, hcb, hln, f2, hwi, d2, f1, hwp, a1, a3, b1, b3, q1]; exact rfl) (by first | rfl | with_reducible assumption) rfl ?_) | (refine arl_none rfl rfl (by simp +decide only [aop, abuiltin, aeval, aintBin, bin_int, aload_bump, SS, reduceIte, reduceCtorEq, f7, d1, f0, fc0, hcb, hln, f2, hwi, d2, f1, hwp, a1, a3, b1, b3, q1]; exact rfl) rfl rfl ?_) | (refine arl_off rfl rfl ?_) | (refine aw_condT (by simp +decide only [aop, abuiltin, aeval, aintBin, bin_int, aload_bump, SS, reduceIte, reduceCtorEq, f7, d1, f0, fc0, hcb, hln, f2, hwi, d2, f1, hwp, a1, a3, b1, b3, q1]; first | done | exact rfl) ?_) | (refine aw_condF (by simp +decide only [aop, abuiltin, aeval, aintBin, bin_int, aload_bump, SS, reduceIte, reduceCtorEq, f7, d1, f0, fc0, hcb, hln, f2, hwi, d2, f1, hwp, a1, a3, b1, b3, q1]; first | done | exact rfl) ?_))
          refine ⟨.inr rfl, _, rfl, hE.trans (by repeat (first | exact Keeps.refl _ _ | (refine Keeps.bumpR ?_ _))), ?_⟩
          obtain rfl : X = n := by omega
          rfl
      · have d2 : decide (((i + n : Nat) : Int) < (b.length : Int)) = false := decide_eq_false (by omega)
        rw [if_neg (fun h => hlt h.1)] at hlc
        repeat (first | (refine aw_seq ?_) | (refine aw_reg0 (by simp only [SZ, Nat.reduceAdd]; exact rfl) ?_) | (refine aw_reg (by decide +kernel) (by simp only [SZ, Nat.reduceAdd]; exact rfl) ?_) | (refine aw_regS (by decide +kernel) (by simp only [SZ, Nat.reduceAdd]; exact rfl) ?_) | (refine arl_nil ?_) | (refine aw_skip ?_) | (refine aw_block ?_) | (refine aw_exit ?_) | (refine aw_ret ?_) | (refine arl_cons rfl rfl (by simp +decide only [aop, abuiltin, aeval, aintBin, bin_int, aload_bump, SS, reduceIte, reduceCtorEq, f7, d1, f0, fc0, hcb, hln, f2, hwi, d2]; exact rfl) (by first | rfl | with_reducible assumption) rfl ?_) | (refine arl_none rfl rfl (by simp +decide only [aop, abuiltin, aeval, aintBin, bin_int, aload_bump, SS, reduceIte, reduceCtorEq, f7, d1, f0, fc0, hcb, hln, f2, hwi, d2]; exact rfl) rfl rfl ?_) | (refine arl_off rfl rfl ?_) | (refine aw_condT (by simp +decide only [aop, abuiltin, aeval, aintBin, bin_int, aload_bump, SS, reduceIte, reduceCtorEq, f7, d1, f0, fc0, hcb, hln, f2, hwi, d2]; first | done | exact rfl) ?_) | (refine aw_condF (by simp +decide only [aop, abuiltin, aeval, aintBin, bin_int, aload_bump, SS, reduceIte, reduceCtorEq, f7, d1, f0, fc0, hcb, hln, f2, hwi, d2]; first | done | exact rfl) ?_))
        refine ⟨.inr rfl, _, rfl, hE.trans (by repeat (first | exact Keeps.refl _ _ | (refine Keeps.bumpR ?_ _))), ?_⟩
        obtain rfl : X = n := by omega
        rfl
    · have d1 : decide ((n : Int) < 131) = false := decide_eq_false (by omega)
      rw [show 131 - n = 0 by omega, lcp] at hlc
      repeat (first | (refine aw_seq ?_) | (refine aw_reg0 (by simp only [SZ, Nat.reduceAdd]; exact rfl) ?_) | (refine aw_reg (by decide +kernel) (by simp only [SZ, Nat.reduceAdd]; exact rfl) ?_) | (refine aw_regS (by decide +kernel) (by simp only [SZ, Nat.reduceAdd]; exact rfl) ?_) | (refine arl_nil ?_) | (refine aw_skip ?_) | (refine aw_block ?_) | (refine aw_exit ?_) | (refine aw_ret ?_) | (refine arl_cons rfl rfl (by simp +decide only [aop, abuiltin, aeval, aintBin, bin_int, aload_bump, SS, reduceIte, reduceCtorEq, f7, d1]; exact rfl) (by first | rfl | with_reducible assumption) rfl ?_) | (refine arl_none rfl rfl (by simp +decide only [aop, abuiltin, aeval, aintBin, bin_int, aload_bump, SS, reduceIte, reduceCtorEq, f7, d1]; exact rfl) rfl rfl ?_) | (refine arl_off rfl rfl ?_) | (refine aw_condT (by simp +decide only [aop, abuiltin, aeval, aintBin, bin_int, aload_bump, SS, reduceIte, reduceCtorEq, f7, d1]; first | done | exact rfl) ?_) | (refine aw_condF (by simp +decide only [aop, abuiltin, aeval, aintBin, bin_int, aload_bump, SS, reduceIte, reduceCtorEq, f7, d1]; first | done | exact rfl) ?_))
      refine ⟨.inr rfl, _, rfl, hE.trans (by repeat (first | exact Keeps.refl _ _ | (refine Keeps.bumpR ?_ _))), ?_⟩
      obtain rfl : X = n := by omega
      rfl
  · exact ⟨(by repeat (first | exact Keeps.refl _ _ | (refine Keeps.bumpR ?_ _))), 0, by omega, rfl, by omega, rfl, rfl, rfl, rfl, hX.symm⟩
end Go.Proofs.YthjfncppiffnmaaDoor.Ra
