/- token.carry, token.Run. -/
import Derived.Test.YthjfncppiffnmaaDoorTb
namespace Go.Proofs.YthjfncppiffnmaaDoor.Ra
open Go Go.RowKit
set_option linter.unusedVariables false
set_option linter.unusedSimpArgs false
set_option maxRecDepth 10000
/-- A copy: n bytes, each the one that stands d ahead. -/
def cp (d : Nat) (out : List Int) : Nat → List Int
  | 0 => out
  | n + 1 => cp d out n ++ [(cp d out n).getD ((cp d out n).length - d) 0]
theorem cp_len (d : Nat) (out : List Int) (n : Nat) : (cp d out n).length = out.length + n := by
  induction n with
  | zero => rfl
  | succ n ih => simp [cp, ih]; omega
theorem cp_zero (out : List Int) : cp 0 out 0 = out := rfl
/-- What one token makes. -/
def carry (out : List Int) (t : Tok) (most : Int) : Int × List Int :=
  if ill t = true ∨ t.2.1 > out.length then (50, [])
  else if (out.length : Int) + t.1.length + t.2.2 > most then (4, [])
  else (0, cp t.2.1.toNat (out ++ t.1) t.2.2.toNat)
theorem ill_range {t : Tok} (h : ¬ ill t = true) : 0 ≤ t.2.1 ∧ t.2.1 ≤ 4096 ∧ 0 ≤ t.2.2 ∧ t.2.2 ≤ 131 ∧ t.1.length ≤ 128 ∧ (0 < t.2.2 → 0 < t.2.1) := by
  unfold ill cop at h
  split at h
  · rename_i hc
    simp only [decide_eq_true_eq] at h
    omega
  · rename_i hc
    simp only [decide_eq_true_eq] at h hc
    omega
def CarryQ (K : Nat → Prop) (st : St) (res : Int × List Int) (r : AV) (s : St) : Prop :=
  Keeps K st s ∧ ∃ x, r = .tup [x, i64 res.1] ∧ x.solid = true ∧ OwB s (fun g => K g ∨ st.n ≤ g) x res.2
theorem carry_ok {st : St} (hw : WF st) {K Kt : Nat → Prop} {o c : AV} {out : List Int} (t : Tok) (ho : OwB st K o out) (hc : RdB st Kt c t.1) (hd : ∀ g, Kt g → ¬ K g) (most : Int) (hl : out.length ≤ 1000000000) (hm : -1000000000000 ≤ most ∧ most ≤ 1000000000000) (htl : t.1.length ≤ 1000000000) :
    ACalls Tryd.prog 21 [o, .agg [c, i64 t.2.1, i64 t.2.2], i64 most] st (CarryQ K st (carry out t most)) := by
  replace ho := ho.lt hw
  replace hc := hc.lt hw
  have hos := ho.solid
  have hcs := hc.solid
  have hlo := ho.rd.len
  have hlc := hc.len
  refine acalls_of Tryd.func21 rfl (by kernel_rfl) (by simp [hos]; exact ⟨rfl, rfl⟩) ?_
  repeat (first | (refine aw_seq ?_) | (refine aw_reg0 (by simp only [SZ, Nat.reduceAdd]; exact rfl) ?_) | (refine aw_reg (by decide +kernel) (by simp only [SZ, Nat.reduceAdd]; exact rfl) ?_) | (refine aw_regS (by decide +kernel) (by simp only [SZ, Nat.reduceAdd]; exact rfl) ?_) | (refine arl_nil ?_) | (refine aw_skip ?_) | (refine aw_block ?_) | (refine aw_exit ?_) | (refine aw_ret ?_))
  refine arl_box rfl rfl rfl szTK rfl rfl rfl (fresh hw (Nat.le_add_right _ _)) ?_
  intro s0 hn0 hwf0 hE0 hg0 hD0
  have hw0 : WF s0 := hwf0 (by repeat (first | assumption | (refine WF.bump ?_ _) | (refine WF.put ?_ (by simp only [n_bump, n_put, n_touch, n_kill] at *; omega) (by simp only [n_bump, n_put, n_touch, n_kill] at *; omega)))) (by simp only [n_bump, n_put, n_touch, n_kill] at *; omega)
  replace hE0 : Ext st s0 := Keeps.trans (show Ext st _ from (by repeat (first | exact Keeps.refl _ _ | (refine Keeps.bumpR ?_ _)))) hE0
  have hN0 : s0.n = st.n + 3 := by rw [hn0]; rfl
  obtain ⟨o0, o1, o2, o3⟩ := tkLd hg0
  have bad : ∀ {s : St} {e : Int}, Ext st s → carry out t most = (e, []) → CarryQ K st (carry out t most) (.tup [.pl (.slice none 0 0), i64 e]) s := fun h1 h2 =>
    ⟨h1.mono (fun _ h => h.elim), _, by rw [h2], rfl, by rw [h2]; exact .inl ⟨rfl, rfl⟩⟩
  repeat (first | (refine aw_seq ?_) | (refine aw_reg0 (by simp only [SZ, Nat.reduceAdd]; exact rfl) ?_) | (refine aw_reg (by decide +kernel) (by simp only [SZ, Nat.reduceAdd]; exact rfl) ?_) | (refine aw_regS (by decide +kernel) (by simp only [SZ, Nat.reduceAdd]; exact rfl) ?_) | (refine arl_nil ?_) | (refine aw_skip ?_) | (refine aw_block ?_) | (refine aw_exit ?_) | (refine aw_ret ?_) | (refine arl_cons rfl rfl (by simp +decide only [aop, abuiltin, aeval, aintBin, bin_int, aload_bump, SS, reduceIte, reduceCtorEq, o3]; exact rfl) (by first | rfl | with_reducible assumption) rfl ?_) | (refine arl_none rfl rfl (by simp +decide only [aop, abuiltin, aeval, aintBin, bin_int, aload_bump, SS, reduceIte, reduceCtorEq, o3]; exact rfl) rfl rfl ?_) | (refine arl_off rfl rfl ?_) | (refine aw_condT (by simp +decide only [aop, abuiltin, aeval, aintBin, bin_int, aload_bump, SS, reduceIte, reduceCtorEq, o3]; first | done | exact rfl) ?_) | (refine aw_condF (by simp +decide only [aop, abuiltin, aeval, aintBin, bin_int, aload_bump, SS, reduceIte, reduceCtorEq, o3]; first | done | exact rfl) ?_))
  refine arl_call rfl rfl rfl rfl rfl rfl ((ill_ok (by repeat (first | assumption | (refine WF.bump ?_ _))) t ((hc.up hE0).up (by repeat (first | exact Keeps.refl _ _ | (refine Keeps.bumpR ?_ _))))).wf (by repeat (first | assumption | (refine WF.bump ?_ _) | (refine WF.put ?_ (by simp only [n_bump, n_put, n_touch, n_kill] at *; omega) (by simp only [n_bump, n_put, n_touch, n_kill] at *; omega)))) |>.mono ?_)
  rintro r s1 ⟨hw1, hn1, hE1, rfl⟩
  refine ⟨by first | rfl | with_reducible assumption, ?_⟩
  replace hE1 : Ext s0 s1 := Keeps.trans (by repeat (first | assumption | exact Keeps.refl _ _ | (refine Keeps.bumpR ?_ _) | (refine Keeps.put ?_ (by assumption) (by simp only [n_bump, n_put, n_touch, n_kill] at *; omega)))) hE1
  have hN1 := hE1.n
  have hS1 := hE0.trans hE1
  have hg1 := hE1.get _ _ hg0 (fun h => h)
  obtain ⟨o0, o1, o2, o3⟩ := tkLd hg1
  by_cases hi : ill t = true
  · have hcar : carry out t most = (50, []) := by unfold carry; rw [if_pos (.inl hi)]
    rw [hi]
    repeat (first | (refine aw_seq ?_) | (refine aw_reg0 (by simp only [SZ, Nat.reduceAdd]; exact rfl) ?_) | (refine aw_reg (by decide +kernel) (by simp only [SZ, Nat.reduceAdd]; exact rfl) ?_) | (refine aw_regS (by decide +kernel) (by simp only [SZ, Nat.reduceAdd]; exact rfl) ?_) | (refine arl_nil ?_) | (refine aw_skip ?_) | (refine aw_block ?_) | (refine aw_exit ?_) | (refine aw_ret ?_) | (refine arl_cons rfl rfl (by simp +decide only [aop, abuiltin, aeval, aintBin, bin_int, aload_bump, SS, reduceIte, reduceCtorEq]; exact rfl) (by first | rfl | with_reducible assumption) rfl ?_) | (refine arl_none rfl rfl (by simp +decide only [aop, abuiltin, aeval, aintBin, bin_int, aload_bump, SS, reduceIte, reduceCtorEq]; exact rfl) rfl rfl ?_) | (refine arl_off rfl rfl ?_) | (refine aw_condT (by simp +decide only [aop, abuiltin, aeval, aintBin, bin_int, aload_bump, SS, reduceIte, reduceCtorEq]; first | done | exact rfl) ?_) | (refine aw_condF (by simp +decide only [aop, abuiltin, aeval, aintBin, bin_int, aload_bump, SS, reduceIte, reduceCtorEq]; first | done | exact rfl) ?_))
    exact ⟨.inr rfl, _, rfl, bad (hS1.trans (by repeat (first | exact Keeps.refl _ _ | (refine Keeps.bumpR ?_ _)))) hcar⟩
  · have hif : ill t = false := by simpa using hi
    obtain ⟨r1, r2, r3, r4, r5, r6⟩ := ill_range hi
    rw [hif]
    by_cases hgt : t.2.1 > out.length
    · have d1 : decide (t.2.1 > (out.length : Int)) = true := decide_eq_true hgt
      have hcar : carry out t most = (50, []) := by unfold carry; rw [if_pos (.inr hgt)]
      repeat (first | (refine aw_seq ?_) | (refine aw_reg0 (by simp only [SZ, Nat.reduceAdd]; exact rfl) ?_) | (refine aw_reg (by decide +kernel) (by simp only [SZ, Nat.reduceAdd]; exact rfl) ?_) | (refine aw_regS (by decide +kernel) (by simp only [SZ, Nat.reduceAdd]; exact rfl) ?_) | (refine arl_nil ?_) | (refine aw_skip ?_) | (refine aw_block ?_) | (refine aw_exit ?_) | (refine aw_ret ?_) | (refine arl_cons rfl rfl (by simp +decide only [aop, abuiltin, aeval, aintBin, bin_int, aload_bump, SS, reduceIte, reduceCtorEq, faT1, o1, hlo, d1]; exact rfl) (by first | rfl | with_reducible assumption) rfl ?_) | (refine arl_none rfl rfl (by simp +decide only [aop, abuiltin, aeval, aintBin, bin_int, aload_bump, SS, reduceIte, reduceCtorEq, faT1, o1, hlo, d1]; exact rfl) rfl rfl ?_) | (refine arl_off rfl rfl ?_) | (refine aw_condT (by simp +decide only [aop, abuiltin, aeval, aintBin, bin_int, aload_bump, SS, reduceIte, reduceCtorEq, faT1, o1, hlo, d1]; first | done | exact rfl) ?_) | (refine aw_condF (by simp +decide only [aop, abuiltin, aeval, aintBin, bin_int, aload_bump, SS, reduceIte, reduceCtorEq, faT1, o1, hlo, d1]; first | done | exact rfl) ?_))
      exact ⟨.inr rfl, _, rfl, bad (hS1.trans (by repeat (first | exact Keeps.refl _ _ | (refine Keeps.bumpR ?_ _)))) hcar⟩
    · have d1 : decide (t.2.1 > (out.length : Int)) = false := decide_eq_false hgt
      have hor : ¬ (ill t = true ∨ t.2.1 > (out.length : Int)) := fun h => h.elim hi hgt
      have hwa : IntKind.i64.wrap ((out.length : Int) + (t.1.length : Int)) = (out.length : Int) + t.1.length := wrap64_of (by omega) (by omega)
      have hwb : IntKind.i64.wrap ((out.length : Int) + t.1.length + t.2.2) = (out.length : Int) + t.1.length + t.2.2 := wrap64_of (by omega) (by omega)
      by_cases hlong : (out.length : Int) + t.1.length + t.2.2 > most
      · have d2 := decide_eq_true hlong
        have hcar : carry out t most = (4, []) := by unfold carry; rw [if_neg hor, if_pos hlong]
        repeat (first | (refine aw_seq ?_) | (refine aw_reg0 (by simp only [SZ, Nat.reduceAdd]; exact rfl) ?_) | (refine aw_reg (by decide +kernel) (by simp only [SZ, Nat.reduceAdd]; exact rfl) ?_) | (refine aw_regS (by decide +kernel) (by simp only [SZ, Nat.reduceAdd]; exact rfl) ?_) | (refine arl_nil ?_) | (refine aw_skip ?_) | (refine aw_block ?_) | (refine aw_exit ?_) | (refine aw_ret ?_) | (refine arl_cons rfl rfl (by simp +decide only [aop, abuiltin, aeval, aintBin, bin_int, aload_bump, SS, reduceIte, reduceCtorEq, faT0, faT1, faT2, o0, o1, o2, hlo, hlc, d1, hwa, hwb, d2]; exact rfl) (by first | rfl | with_reducible assumption) rfl ?_) | (refine arl_none rfl rfl (by simp +decide only [aop, abuiltin, aeval, aintBin, bin_int, aload_bump, SS, reduceIte, reduceCtorEq, faT0, faT1, faT2, o0, o1, o2, hlo, hlc, d1, hwa, hwb, d2]; exact rfl) rfl rfl ?_) | (refine arl_off rfl rfl ?_) | (refine aw_condT (by simp +decide only [aop, abuiltin, aeval, aintBin, bin_int, aload_bump, SS, reduceIte, reduceCtorEq, faT0, faT1, faT2, o0, o1, o2, hlo, hlc, d1, hwa, hwb, d2]; first | done | exact rfl) ?_) | (refine aw_condF (by simp +decide only [aop, abuiltin, aeval, aintBin, bin_int, aload_bump, SS, reduceIte, reduceCtorEq, faT0, faT1, faT2, o0, o1, o2, hlo, hlc, d1, hwa, hwb, d2]; first | done | exact rfl) ?_))
        exact ⟨.inr rfl, _, rfl, bad (hS1.trans (by repeat (first | exact Keeps.refl _ _ | (refine Keeps.bumpR ?_ _)))) hcar⟩
      · have d2 := decide_eq_false hlong
        have hcar : carry out t most = (0, cp t.2.1.toNat (out ++ t.1) t.2.2.toNat) := by unfold carry; rw [if_neg hor, if_neg hlong]
        repeat (first | (refine aw_seq ?_) | (refine aw_reg0 (by simp only [SZ, Nat.reduceAdd]; exact rfl) ?_) | (refine aw_reg (by decide +kernel) (by simp only [SZ, Nat.reduceAdd]; exact rfl) ?_) | (refine aw_regS (by decide +kernel) (by simp only [SZ, Nat.reduceAdd]; exact rfl) ?_) | (refine arl_nil ?_) | (refine aw_skip ?_) | (refine aw_block ?_) | (refine aw_exit ?_) | (refine aw_ret ?_) | (refine arl_cons rfl rfl (by simp +decide only [aop, abuiltin, aeval, aintBin, bin_int, aload_bump, SS, reduceIte, reduceCtorEq, faT0, faT1, faT2, o0, o1, o2, hlo, hlc, d1, hwa, hwb, d2]; exact rfl) (by first | rfl | with_reducible assumption) rfl ?_) | (refine arl_none rfl rfl (by simp +decide only [aop, abuiltin, aeval, aintBin, bin_int, aload_bump, SS, reduceIte, reduceCtorEq, faT0, faT1, faT2, o0, o1, o2, hlo, hlc, d1, hwa, hwb, d2]; exact rfl) rfl rfl ?_) | (refine arl_off rfl rfl ?_) | (refine aw_condT (by simp +decide only [aop, abuiltin, aeval, aintBin, bin_int, aload_bump, SS, reduceIte, reduceCtorEq, faT0, faT1, faT2, o0, o1, o2, hlo, hlc, d1, hwa, hwb, d2]; first | done | exact rfl) ?_) | (refine aw_condF (by simp +decide only [aop, abuiltin, aeval, aintBin, bin_int, aload_bump, SS, reduceIte, reduceCtorEq, faT0, faT1, faT2, o0, o1, o2, hlo, hlc, d1, hwa, hwb, d2]; first | done | exact rfl) ?_))
        have hN1' : st.n + 3 ≤ s1.n := by have := hE1.n; omega
        refine arl_appW (K := fun g => (K g ∧ g < st.n) ∨ s1.n ≤ g) (K' := fun g => Kt g ∧ g < st.n) (xs := out) (ns := t.1) rfl rfl rfl (((ho.up hS1).mono (fun g h => .inl h)).up (by repeat (first | exact Keeps.refl _ _ | (refine Keeps.bumpR ?_ _)))) ((hc.up hS1).up (by repeat (first | exact Keeps.refl _ _ | (refine Keeps.bumpR ?_ _)))) (.inr (by simp only [n_bump]; omega)) (by omega) ?_
        intro y s2 hO2 hn2 hK2 hwf2
        have hys := hO2.solid
        have hw2 : WF s2 := hwf2 (by repeat (first | assumption | (refine WF.bump ?_ _))) (by simp only [n_bump, n_put, n_touch, n_kill] at *; omega)
        have hE2 : Keeps (fun g => K g ∧ g < st.n) s1 s2 := hK2 _ s1 hw1 (Keeps.mono (G := fun _ => False) (by repeat (first | exact Keeps.refl _ _ | (refine Keeps.bumpR ?_ _))) (fun _ h => h.elim)) (by simp only [n_bump]; omega) (fun g h => h)
        have hN2 := hE2.n
        have hg2 := hE2.get _ _ hg1 (fun h => by have := h.2; simp only at this; omega)
        obtain ⟨o0, o1, o2, o3⟩ := tkLd hg2
        obtain ⟨n, hn⟩ : ∃ n : Nat, t.2.2 = n := ⟨t.2.2.toNat, by omega⟩
        obtain ⟨d, hdd⟩ : ∃ d : Nat, t.2.1 = d := ⟨t.2.1.toNat, by omega⟩
        rw [hn] at o2
        rw [hn, hdd, Int.toNat_natCast, Int.toNat_natCast] at hcar
        repeat (first | (refine aw_seq ?_) | (refine aw_reg0 (by simp only [SZ, Nat.reduceAdd]; exact rfl) ?_) | (refine aw_reg (by decide +kernel) (by simp only [SZ, Nat.reduceAdd]; exact rfl) ?_) | (refine aw_regS (by decide +kernel) (by simp only [SZ, Nat.reduceAdd]; exact rfl) ?_) | (refine arl_nil ?_) | (refine aw_skip ?_) | (refine aw_block ?_) | (refine aw_exit ?_) | (refine aw_ret ?_) | (refine arl_cons rfl rfl (by simp +decide only [aop, abuiltin, aeval, aintBin, bin_int, aload_bump, SS, reduceIte, reduceCtorEq, faT2, o2]; exact rfl) (by first | rfl | with_reducible assumption) rfl ?_) | (refine arl_none rfl rfl (by simp +decide only [aop, abuiltin, aeval, aintBin, bin_int, aload_bump, SS, reduceIte, reduceCtorEq, faT2, o2]; exact rfl) rfl rfl ?_) | (refine arl_off rfl rfl ?_) | (refine aw_condT (by simp +decide only [aop, abuiltin, aeval, aintBin, bin_int, aload_bump, SS, reduceIte, reduceCtorEq, faT2, o2]; first | done | exact rfl) ?_) | (refine aw_condF (by simp +decide only [aop, abuiltin, aeval, aintBin, bin_int, aload_bump, SS, reduceIte, reduceCtorEq, faT2, o2]; first | done | exact rfl) ?_))
        refine aw_rounds_wf (fun m fr s => Keeps (fun g => K g ∧ g < st.n) s1 s ∧ ∃ k : Nat, k ≤ n ∧ m = n - k ∧ fr 4 = .ptr (st.n + 0) 0 ∧ fr 33 = i64 n ∧ fr 34 = i64 k ∧ OwB s (fun g => (K g ∧ g < st.n) ∨ s1.n ≤ g) (fr 0) (cp d (out ++ t.1) k)) ?_ n _ _ (by repeat (first | assumption | (refine WF.bump ?_ _))) ?_
        · rintro m fr s hws ⟨hE, k, hk, rfl, f4, f33, f34, hO⟩
          have hEn := hE.n
          have hkos := hO.solid
          have hcl := cp_len d (out ++ t.1) k
          rw [List.length_append] at hcl
          by_cases hlt : k < n
          · have hd3 : decide ((k : Int) < (n : Int)) = true := decide_eq_true (by omega)
            have hg := hE.get _ _ hg1 (fun h => by have := h.2; simp only at this; omega)
            obtain ⟨p0, p1, p2, p3⟩ := tkLd hg
            rw [hdd] at p1
            have hlk := hO.rd.len
            have hws1 : IntKind.i64.wrap (((cp d (out ++ t.1) k).length : Int) - (d : Int)) = ((cp d (out ++ t.1) k).length : Int) - d := wrap64_of (by omega) (by omega)
            obtain ⟨p, ix, ixs, il⟩ := hO.rd.at .i64 (((cp d (out ++ t.1) k).length : Int) - d) (by omega) (by omega)
            have htn : (((cp d (out ++ t.1) k).length : Int) - d).toNat = (cp d (out ++ t.1) k).length - d := by omega
            rw [htn] at il
            have hwk := wrap_succ (k := k) (by omega)
            repeat (first | (refine aw_seq ?_) | (refine aw_reg0 (by simp only [SZ, Nat.reduceAdd]; exact rfl) ?_) | (refine aw_reg (by decide +kernel) (by simp only [SZ, Nat.reduceAdd]; exact rfl) ?_) | (refine aw_regS (by decide +kernel) (by simp only [SZ, Nat.reduceAdd]; exact rfl) ?_) | (refine arl_nil ?_) | (refine aw_skip ?_) | (refine aw_block ?_) | (refine aw_exit ?_) | (refine aw_ret ?_) | (refine arl_cons rfl rfl (by simp +decide only [aop, abuiltin, aeval, aintBin, bin_int, aload_bump, SS, reduceIte, reduceCtorEq, f4, f33, f34, hd3, faT1, p1, hlk, hws1, ix, il, lit1]; exact rfl) (by first | rfl | with_reducible assumption) rfl ?_) | (refine arl_none rfl rfl (by simp +decide only [aop, abuiltin, aeval, aintBin, bin_int, aload_bump, SS, reduceIte, reduceCtorEq, f4, f33, f34, hd3, faT1, p1, hlk, hws1, ix, il, lit1]; exact rfl) rfl rfl ?_) | (refine arl_off rfl rfl ?_) | (refine aw_condT (by simp +decide only [aop, abuiltin, aeval, aintBin, bin_int, aload_bump, SS, reduceIte, reduceCtorEq, f4, f33, f34, hd3, faT1, p1, hlk, hws1, ix, il, lit1]; first | done | exact rfl) ?_) | (refine aw_condF (by simp +decide only [aop, abuiltin, aeval, aintBin, bin_int, aload_bump, SS, reduceIte, reduceCtorEq, f4, f33, f34, hd3, faT1, p1, hlk, hws1, ix, il, lit1]; first | done | exact rfl) ?_))
            refine arl_appW (K := fun g => (K g ∧ g < st.n) ∨ s1.n ≤ g) (K' := fun _ => True) (xs := cp d (out ++ t.1) k) (ns := [(cp d (out ++ t.1) k).getD ((cp d (out ++ t.1) k).length - d) 0]) rfl rfl rfl (hO.up (by repeat (first | assumption | exact Keeps.refl _ _ | (refine Keeps.bumpR ?_ _) | (refine Keeps.put ?_ (by assumption) (by simp only [n_bump, n_put, n_touch, n_kill] at *; omega))))) (RdB.lit _ _ _ [_]) (.inr (by simp only [n_bump]; omega)) (by simp; omega) ?_
            intro y s3 hO3 hn3 hK3 hwf3
            have hys3 := hO3.solid
            have hE3 : Keeps (fun g => K g ∧ g < st.n) s1 s3 := hK3 _ s1 hw1 (by repeat (first | exact hE | (refine Keeps.bumpR ?_ _) | (refine Keeps.put ?_ (by assumption) (by simp only [n_bump, n_put]; omega)))) (by simp only [n_bump]; omega) (fun g h => h)
            repeat (first | (refine aw_seq ?_) | (refine aw_reg0 (by simp only [SZ, Nat.reduceAdd]; exact rfl) ?_) | (refine aw_reg (by decide +kernel) (by simp only [SZ, Nat.reduceAdd]; exact rfl) ?_) | (refine aw_regS (by decide +kernel) (by simp only [SZ, Nat.reduceAdd]; exact rfl) ?_) | (refine arl_nil ?_) | (refine aw_skip ?_) | (refine aw_block ?_) | (refine aw_exit ?_) | (refine aw_ret ?_) | (refine arl_cons rfl rfl (by simp +decide only [aop, abuiltin, aeval, aintBin, bin_int, aload_bump, SS, reduceIte, reduceCtorEq, f34, hwk]; exact rfl) (by first | rfl | with_reducible assumption) rfl ?_) | (refine arl_none rfl rfl (by simp +decide only [aop, abuiltin, aeval, aintBin, bin_int, aload_bump, SS, reduceIte, reduceCtorEq, f34, hwk]; exact rfl) rfl rfl ?_) | (refine arl_off rfl rfl ?_) | (refine aw_condT (by simp +decide only [aop, abuiltin, aeval, aintBin, bin_int, aload_bump, SS, reduceIte, reduceCtorEq, f34, hwk]; first | done | exact rfl) ?_) | (refine aw_condF (by simp +decide only [aop, abuiltin, aeval, aintBin, bin_int, aload_bump, SS, reduceIte, reduceCtorEq, f34, hwk]; first | done | exact rfl) ?_))
            exact ⟨n - (k + 1), by omega, hE3.trans (Keeps.mono (G := fun _ => False) (by repeat (first | exact Keeps.refl _ _ | (refine Keeps.bumpR ?_ _))) (fun _ h => h.elim)), k + 1, by omega, rfl, f4, f33, rfl, hO3.up (by repeat (first | exact Keeps.refl _ _ | (refine Keeps.bumpR ?_ _)))⟩
          · have hd3 : decide ((k : Int) < (n : Int)) = false := decide_eq_false (by omega)
            obtain rfl : k = n := by omega
            repeat (first | (refine aw_seq ?_) | (refine aw_reg0 (by simp only [SZ, Nat.reduceAdd]; exact rfl) ?_) | (refine aw_reg (by decide +kernel) (by simp only [SZ, Nat.reduceAdd]; exact rfl) ?_) | (refine aw_regS (by decide +kernel) (by simp only [SZ, Nat.reduceAdd]; exact rfl) ?_) | (refine arl_nil ?_) | (refine aw_skip ?_) | (refine aw_block ?_) | (refine aw_exit ?_) | (refine aw_ret ?_) | (refine arl_cons rfl rfl (by simp +decide only [aop, abuiltin, aeval, aintBin, bin_int, aload_bump, SS, reduceIte, reduceCtorEq, f33, f34, hd3]; exact rfl) (by first | rfl | with_reducible assumption) rfl ?_) | (refine arl_none rfl rfl (by simp +decide only [aop, abuiltin, aeval, aintBin, bin_int, aload_bump, SS, reduceIte, reduceCtorEq, f33, f34, hd3]; exact rfl) rfl rfl ?_) | (refine arl_off rfl rfl ?_) | (refine aw_condT (by simp +decide only [aop, abuiltin, aeval, aintBin, bin_int, aload_bump, SS, reduceIte, reduceCtorEq, f33, f34, hd3]; first | done | exact rfl) ?_) | (refine aw_condF (by simp +decide only [aop, abuiltin, aeval, aintBin, bin_int, aload_bump, SS, reduceIte, reduceCtorEq, f33, f34, hd3]; first | done | exact rfl) ?_))
            refine ⟨.inr rfl, _, rfl, ?_⟩
            rw [hcar]
            exact ⟨(hS1.mono (fun _ h => h.elim)).trans ((hE.mono (fun g h => h.1)).trans (Keeps.mono (G := fun _ => False) (by repeat (first | exact Keeps.refl _ _ | (refine Keeps.bumpR ?_ _))) (fun _ h => h.elim))), _, rfl, hkos, (hO.mono (fun g h => h.elim (fun h => .inl h.1) (fun h => .inr (by omega)))).up (by repeat (first | exact Keeps.refl _ _ | (refine Keeps.bumpR ?_ _)))⟩
        · exact ⟨hE2.trans (Keeps.mono (G := fun _ => False) (by repeat (first | exact Keeps.refl _ _ | (refine Keeps.bumpR ?_ _))) (fun _ h => h.elim)), 0, by omega, rfl, rfl, rfl, rfl, hO2.up (by repeat (first | exact Keeps.refl _ _ | (refine Keeps.bumpR ?_ _)))⟩
/-- What tokens make. -/
def run (most : Int) : List Tok → List Int → Int × List Int
  | [], out => (0, out)
  | t :: ts, out => if (carry out t (bnd most)).1 = 0 then run most ts (carry out t (bnd most)).2 else ((carry out t (bnd most)).1, [])
theorem bnd_range (m : Int) : 0 ≤ bnd m ∧ bnd m ≤ 32768 := by
  unfold bnd
  repeat' split
  all_goals omega
theorem carry_len {out : List Int} {t : Tok} {m : Int} (h : (carry out t m).1 = 0) : ((carry out t m).2.length : Int) ≤ max m 0 := by
  unfold carry at h ⊢
  split
  · rename_i h1; rw [if_pos h1] at h; cases h
  · rename_i h1
    rw [if_neg h1] at h
    split
    · rename_i h2; rw [if_pos h2] at h; cases h
    · rename_i h2
      have hi := ill_range (fun h => h1 (.inl h))
      simp only [cp_len, List.length_append]
      omega
end Go.Proofs.YthjfncppiffnmaaDoor.Ra
