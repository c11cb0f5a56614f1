/- frame: Feed. -/
import Derived.Test.YtoccmjhgmoandaaXd
namespace Go.Proofs.Ytoccmjhgmoandaa.Ra
open Go Go.RowKit
set_option linter.unusedVariables false
set_option linter.unusedSimpArgs false
set_option maxRecDepth 10000
abbrev BT : TypeId := 26
theorem TRo : TF Try.prog 22 BT oRowK.s 24 := TR
theorem litF1 {st : St} {K : Nat → Prop} {x : AV} {ys : List Int} (hl : RdB st K x ys) (id : Nat) : abuildSlice Try.prog 22 id 1 [(0, x)] = some (.sl id 0 1 1, ⟨[x], BT, true, id⟩) := lits_one TR id [x] (by simp [hl.solid, hl.cell.1]) (by simp)
/-- What 'Feed' makes of the rest and the chunk. -/
def fdq (M : Int) (r : List Int) (err : Int) (c : List Int) : List (List Int) × List Int × Int := if err = 0 then cutS M (r ++ c) else ([], r, err)
def fda (M : Int) (r : List Int) (at_ err : Int) (c : List Int) : Int := if err = 0 then at_ + r.length + c.length - (cutS M (r ++ c)).2.1.length else at_
/-- Whose memory is whose, behind 'Feed'. -/
structure Grp (n n' : Nat) (KH KB KX KH' KB' : Nat → Prop) (L : Nat → Nat → Prop) : Prop where
  h : ∀ g, KH' g → KH g ∨ (n ≤ g ∧ g < n')
  b : ∀ g, KB' g → KB g ∨ (n ≤ g ∧ g < n')
  x : ∀ g, KX g → n ≤ g ∧ g < n'
  l : ∀ j g, L j g → KB g ∨ (n ≤ g ∧ g < n')
  d : ∀ i j g, L i g → L j g → i = j
  lh : ∀ j g, L j g → ¬ KH' g ∧ ¬ KB' g
  xh : ∀ g, KX g → ¬ KH' g ∧ ¬ KB' g
theorem Grp.more {n n' m : Nat} {KH KB KX KH' KB' : Nat → Prop} {L : Nat → Nat → Prop} (h : Grp n n' KH KB KX KH' KB' L) (hm : n' ≤ m) : Grp n m KH KB KX KH' KB' L :=
  ⟨fun g hg => by rcases h.h g hg with k | k; exact .inl k; exact .inr ⟨k.1, by omega⟩, fun g hg => by rcases h.b g hg with k | k; exact .inl k; exact .inr ⟨k.1, by omega⟩, fun g hg => by have := h.x g hg; omega, fun j g hg => by rcases h.l j g hg with k | k; exact .inl k; exact .inr ⟨k.1, by omega⟩, h.d, h.lh, h.xh⟩
theorem Grp.step {n n' m : Nat} {KH KB KX KHk KBk KH' KB' : Nat → Prop} {L : Nat → Nat → Prop} (h : Grp n n' KH KB KX KHk KBk L) (hKB : ∀ g, KB g → g < n) (hn : n ≤ n') (hm : n' ≤ m) (gH : ∀ g, KH' g → KHk g ∨ (n' ≤ g ∧ g < m)) (gB : ∀ g, KB' g → KBk g ∨ (n' ≤ g ∧ g < m)) : Grp n m KH KB KX KH' KB' L := by
  have hlo : ∀ j g, L j g → g < n' := fun j g hg => by rcases h.l j g hg with k | k; have := hKB g k; omega; exact k.2
  refine ⟨fun g hg => ?_, fun g hg => ?_, fun g hg => by have := h.x g hg; omega, fun j g hg => ?_, h.d, fun j g hg => ⟨fun k => ?_, fun k => ?_⟩, fun g hg => ⟨fun k => ?_, fun k => ?_⟩⟩
  · rcases gH g hg with k | k
    · rcases h.h g k with k | k
      · exact .inl k
      · exact .inr ⟨k.1, by omega⟩
    · exact .inr ⟨by omega, k.2⟩
  · rcases gB g hg with k | k
    · rcases h.b g k with k | k
      · exact .inl k
      · exact .inr ⟨k.1, by omega⟩
    · exact .inr ⟨by omega, k.2⟩
  · rcases h.l j g hg with k | k
    · exact .inl k
    · exact .inr ⟨k.1, by omega⟩
  · rcases gH g k with k | k
    · exact (h.lh j g hg).1 k
    · have := hlo j g hg; omega
  · rcases gB g k with k | k
    · exact (h.lh j g hg).2 k
    · have := hlo j g hg; omega
  · rcases gH g k with k | k
    · exact (h.xh g hg).1 k
    · have := h.x g hg; omega
  · rcases gB g k with k | k
    · exact (h.xh g hg).2 k
    · have := h.x g hg; omega
theorem cut_frame {M : Int} {r c : List Int} (h4 : 4 ≤ r.length) (h0 : 0 ≤ hd r) (h1 : hd r ≤ M) (h2 : (r.length : Int) = 4 + hd r) : cutS M (r ++ c) = (r.drop 4 :: (cutS M c).1, (cutS M c).2) := by
  have hh := hd_app c h4
  have hl : 4 + (hd r).toNat = r.length := by omega
  rw [cutS_step, if_neg (by rw [List.length_append]; omega), hh, if_neg (by omega), if_neg (by omega), if_neg (by rw [List.length_append]; omega), hl, List.drop_left, List.drop_append_of_le_length (by omega), List.take_append_of_le_length (by rw [List.length_drop]; omega), List.take_of_length_le (by rw [List.length_drop]; omega)]
def FeedQ (st : St) (lo p : Nat) (KH KB : Nat → Prop) (M : Int) (r : List Int) (fr at_ err : Int) (c : List Int) (res : AV) (s : St) : Prop :=
  Keeps (fun g => g = p ∨ KH g ∨ KB g) st s ∧ ∃ x, ∃ KX KH' KB' : Nat → Prop, ∃ L : Nat → Nat → Prop, res = .tup [x, i64 (fdq M r err c).2.2] ∧ x.solid = true ∧ OwX oRowK s KX L BT x (fdq M r err c).1 ∧ Grp st.n s.n KH KB KX KH' KB' L ∧
    Prs s lo p KH' KB' M (fdq M r err c).2.1 (fr + (fdq M r err c).1.length) (fda M r at_ err c) (fdq M r err c).2.2
set_option maxHeartbeats 4000000 in
theorem feed_ok {st : St} (hw : WF st) {lo p : Nat} {KH KB Kc : Nat → Prop} {M : Int} {r : List Int} {fr at_ err : Int} {cv : AV} {c : List Int} (h : Prs st lo p KH KB M r fr at_ err) (hpd : err = 0 → Pend M r) (hM : M ≤ 131072) (hc : RdB st Kc cv c) (hcK : ∀ g, Kc g → ¬ KH g ∧ ¬ KB g ∧ g ≠ p) (hby : ∀ x ∈ r ++ c, 0 ≤ x ∧ x < 256) (hl : r.length + c.length ≤ 10000000) (hfr : 0 ≤ fr ∧ fr ≤ 10000000) (hat : 0 ≤ at_ ∧ at_ ≤ 100000000) :
    ACalls Try.prog 12 [.ptr p 0, cv] st (FeedQ st lo p KH KB M r fr at_ err c) := by
  replace hc := hc.lt hw
  have hcs := hc.solid
  have hcl := hc.len
  refine acalls_of Try.func12 rfl (by kernel_rfl) (by simp [hcs]; rfl) ?_
  by_cases he : err = 0
  · subst he
    repeat (first | (refine aw_seq ?_) | (refine aw_reg0 (by simp only [SZ, Nat.reduceAdd]; exact rfl) ?_) | (refine aw_reg (by decide +kernel) (by simp only [SZ, Nat.reduceAdd]; exact rfl) ?_) | (refine aw_regS (by decide +kernel) (by simp only [SZ, Nat.reduceAdd]; exact rfl) ?_) | (refine arl_nil ?_) | (refine aw_skip ?_) | (refine aw_block ?_) | (refine aw_exit ?_) | (refine aw_ret ?_) | (refine arl_cons rfl rfl (by simp +decide only [aop, abuiltin, aeval, aintBin, bin_int, aload_bump, SS, reduceIte, reduceCtorEq]; exact rfl) (by first | rfl | with_reducible assumption) rfl ?_) | (refine arl_none rfl rfl (by simp +decide only [aop, abuiltin, aeval, aintBin, bin_int, aload_bump, SS, reduceIte, reduceCtorEq]; exact rfl) rfl rfl ?_) | (refine arl_off rfl rfl ?_) | (refine aw_condT (by simp +decide only [aop, abuiltin, aeval, aintBin, bin_int, aload_bump, SS, reduceIte, reduceCtorEq]; first | done | exact rfl) ?_) | (refine aw_condF (by simp +decide only [aop, abuiltin, aeval, aintBin, bin_int, aload_bump, SS, reduceIte, reduceCtorEq]; first | done | exact rfl) ?_))
    refine AW.mono (AW.wf (aw_rounds_wf (fun m fr' s => Keeps (fun g => g = p ∨ KH g ∨ KB g) st s ∧ ∃ (rk ck : List Int) (fk : List (List Int)) (atk : Int) (KHk KBk KX : Nat → Prop) (L : Nat → Nat → Prop), m = ck.length ∧ fr' 0 = .ptr p 0 ∧ RdB s (fun g => Kc g ∧ g < st.n) (fr' 1) ck ∧ OwX oRowK s KX L BT (fr' 6) fk ∧ Prs s lo p KHk KBk M rk (fr + fk.length) atk 0 ∧ Pend M rk ∧ cutS M (r ++ c) = (fk ++ (cutS M (rk ++ ck)).1, (cutS M (rk ++ ck)).2) ∧ atk + rk.length + ck.length = at_ + r.length + c.length ∧ at_ ≤ atk ∧ (∀ x ∈ rk ++ ck, 0 ≤ x ∧ x < 256) ∧ rk.length + ck.length + 4 * fk.length ≤ r.length + c.length ∧ Grp st.n s.n KH KB KX KHk KBk L)
      (Q := fun e fr' s => e = .exit 0 ∧ Keeps (fun g => g = p ∨ KH g ∨ KB g) st s ∧ ∃ (KHk KBk KX : Nat → Prop) (L : Nat → Nat → Prop), fr' 0 = .ptr p 0 ∧ OwX oRowK s KX L BT (fr' 6) (cutS M (r ++ c)).1 ∧ Grp st.n s.n KH KB KX KHk KBk L ∧ Prs s lo p KHk KBk M (cutS M (r ++ c)).2.1 (fr + (cutS M (r ++ c)).1.length) (at_ + r.length + c.length - (cutS M (r ++ c)).2.1.length) (cutS M (r ++ c)).2.2) ?_ c.length _ _ (by repeat (first | assumption | (refine WF.bump ?_ _))) ?_) (by repeat (first | assumption | (refine WF.bump ?_ _)))) ?_
    · rintro m fr' s hws ⟨hE, rk, ck, fk, atk, KHk, KBk, KX, L, rfl, f0, hR, hO, hP, hPd, hcut, hlen, hatk, hbyk, hlk, hG⟩
      have hEn := hE.n
      obtain ⟨cw, f1⟩ : ∃ x, fr' 1 = x := ⟨_, rfl⟩
      obtain ⟨xo, f6⟩ : ∃ x, fr' 6 = x := ⟨_, rfl⟩
      rw [f1] at hR
      rw [f6] at hO
      have hrs := hR.solid
      have hrl := hR.len
      have hxs := hO.solid
      by_cases h0 : 0 < ck.length
      · have d1 : decide ((ck.length : Int) > 0) = true := decide_eq_true (by omega)
        obtain ⟨a1, a2, a3, a4, a5, hv, bv, need, pos, b1, b2, b3, b4⟩ := id hP
        rw [if_pos rfl] at b2 b3
        obtain ⟨b5, b6⟩ := b4 rfl
        obtain ⟨l0, l1, l2, l3, l4, l5, l6, l7, l8⟩ := b1.lds
        have hhl := b2.rd.len
        have hvs := b2.solid
        have q0 : ((0 : Int) == 0) = true := by decide
        have hpH : ¬ KHk p := fun h => by have := a3 p h; omega
        have hpB : ¬ KBk p := fun h => by have := a4 p h; omega
        obtain ⟨jg, hjg⟩ : ∃ jg, (((rk.take 4).length : Int) == 4) = jg := ⟨_, rfl⟩
        have hjg' : jg = true ↔ ¬ rk.length < 4 := by rw [← hjg, List.length_take]; simp; omega
        repeat (first | (refine aw_seq ?_) | (refine aw_reg0 (by simp only [SZ, Nat.reduceAdd]; exact rfl) ?_) | (refine aw_reg (by decide +kernel) (by simp only [SZ, Nat.reduceAdd]; exact rfl) ?_) | (refine aw_regS (by decide +kernel) (by simp only [SZ, Nat.reduceAdd]; exact rfl) ?_) | (refine arl_nil ?_) | (refine aw_skip ?_) | (refine aw_block ?_) | (refine aw_exit ?_) | (refine aw_ret ?_) | (refine arl_cons rfl rfl (by simp +decide only [aop, abuiltin, aeval, aintBin, bin_int, aload_bump, SS, reduceIte, reduceCtorEq, f0, f1, hrl, d1, fp5, fs3, l7, q0, fp1, l1, hhl, hjg]; exact rfl) (by first | rfl | with_reducible assumption) rfl ?_) | (refine arl_none rfl rfl (by simp +decide only [aop, abuiltin, aeval, aintBin, bin_int, aload_bump, SS, reduceIte, reduceCtorEq, f0, f1, hrl, d1, fp5, fs3, l7, q0, fp1, l1, hhl, hjg]; exact rfl) rfl rfl ?_) | (refine arl_off rfl rfl ?_) | (refine aw_condT (by simp +decide only [aop, abuiltin, aeval, aintBin, bin_int, aload_bump, SS, reduceIte, reduceCtorEq, f0, f1, hrl, d1, fp5, fs3, l7, q0, fp1, l1, hhl, hjg]; first | done | exact rfl) ?_) | (refine aw_condF (by simp +decide only [aop, abuiltin, aeval, aintBin, bin_int, aload_bump, SS, reduceIte, reduceCtorEq, f0, f1, hrl, d1, fp5, fs3, l7, q0, fp1, l1, hhl, hjg]; first | done | exact rfl) ?_))
        refine arl_call rfl rfl rfl rfl rfl rfl ((step_ok (by repeat (first | assumption | (refine WF.bump ?_ _))) (b1.up (by repeat (first | exact Keeps.refl _ _ | (refine Keeps.bumpR ?_ _)))) (b2.up (by repeat (first | exact Keeps.refl _ _ | (refine Keeps.bumpR ?_ _)))) (b3.up (by repeat (first | exact Keeps.refl _ _ | (refine Keeps.bumpR ?_ _)))) (hR.up (by repeat (first | exact Keeps.refl _ _ | (refine Keeps.bumpR ?_ _)))) hpH hpB a5 ⟨fun g hg => by have := a3 g hg; simp only [n_bump]; omega, fun g hg => by have := a4 g hg; simp only [n_bump]; omega⟩ (fun g hg => ?hk) h0 (fun h4 => ?hn) (by omega) (by omega) (by simp only [n_bump]; omega)).wf (by repeat (first | assumption | (refine WF.bump ?_ _) | (refine WF.put ?_ (by simp only [n_bump, n_put, n_touch, n_kill] at *; omega) (by simp only [n_bump, n_put, n_touch, n_kill] at *; omega)))) |>.mono ?_)
        case hk =>
          have hk2 := hcK g hg.1
          refine ⟨fun k => ?_, fun k => ?_, hk2.2.2⟩
          · rcases hG.h g k with k | k
            · exact hk2.1 k
            · omega
          · rcases hG.b g k with k | k
            · exact hk2.2.1 k
            · omega
        case hn =>
          rcases hPd with k | ⟨k1, k2, k3⟩
          · exact absurd k h4
          · rw [b5 (by omega)]; exact ⟨k3, by omega⟩
        rintro res s1 ⟨hw1, hn1, hE1, hres, n, n1, n2, n3, n4, n5, n6, hR1, hv1, bv1, KH1, KB1, gH, gB, gHB, hO1, hB1, hP1⟩
        refine ⟨hres, ?_⟩
        replace hE1 : Keeps (fun g => g = p ∨ KHk g ∨ KBk g) s s1 := Keeps.trans (Keeps.mono (G := fun _ => False) (show Ext s _ from (by repeat (first | exact Keeps.refl _ _ | (refine Keeps.bumpR ?_ _)))) (fun _ h => h.elim)) hE1
        have hN1 := hE1.n
        obtain ⟨c1, c2, c3, c4, -⟩ := id h
        have hKBn : ∀ g, KB g → g < st.n := fun g hg => (c4 g hg).2
        have hpl : p < st.n := by omega
        replace gH : ∀ g, KH1 g → KHk g ∨ (s.n ≤ g ∧ g < s1.n) := fun g hg => by rcases gH g hg with k | k; exact .inl k; exact .inr ⟨by simp only [n_bump] at k; omega, k.2⟩
        replace gB : ∀ g, KB1 g → KBk g ∨ (s.n ≤ g ∧ g < s1.n) := fun g hg => by rcases gB g hg with k | k; exact .inl k; exact .inr ⟨by simp only [n_bump] at k; omega, k.2⟩
        have hG1 := hG.step hKBn hEn hN1 gH gB
        have hEs : Keeps (fun g => g = p ∨ KH g ∨ KB g) st s1 := Keeps.call hE hE1 hw (fun g hg => by
          rcases hg with hg | hg | hg
          · exact .inl (.inl hg)
          · rcases hG.h g hg with k | k
            · exact .inl (.inr (.inl k))
            · exact .inr k.1
          · rcases hG.b g hg with k | k
            · exact .inl (.inr (.inr k))
            · exact .inr k.1)
        have hOx1 : OwX oRowK s1 KX L BT xo fk := hO.keep hE1 (fun g hg hg' => by
          rcases hg' with hg' | hg' | hg'
          · have := hG.x g hg; omega
          · exact (hG.xh g hg).1 hg'
          · exact (hG.xh g hg).2 hg') (fun j g hg hg' => by
          rcases hg' with hg' | hg' | hg'
          · rcases hG.l j g hg with k | k
            · have := c4 g k; omega
            · omega
          · exact (hG.lh j g hg).1 hg'
          · exact (hG.lh j g hg).2 hg')
        have hr1l : (rk ++ ck.take n).length = rk.length + n := by rw [List.length_append, List.length_take]; omega
        have hsplit : rk ++ ck = (rk ++ ck.take n) ++ ck.drop n := by rw [List.append_assoc, List.take_append_drop]
        have hhdr : ¬ rk.length < 4 → hd (rk ++ ck.take n) = hd rk := fun h => hd_app _ (by omega)
        have hby1 : ∀ x ∈ rk ++ ck.take n, 0 ≤ x ∧ x < 256 := fun x hx => hbyk x (by rw [hsplit]; exact List.mem_append_left _ hx)
        rw [hsplit] at hcut
        generalize hr1 : rk ++ ck.take n = r1 at *
        have hdl1 : (r1.take 4).length = min 4 r1.length := List.length_take
        obtain ⟨l0, l1, l2, l3, l4, l5, l6, l7, l8⟩ := hP1.lds
        have hvs1 := hO1.solid
        have hbs1 := hB1.solid
        have hhl1 := hO1.rd.len
        have hbl1 := hB1.rd.len
        have hlo1 : ∀ g, KH1 g → lo ≤ g ∧ g < s1.n := fun g hg => by rcases gH g hg with k | k; have := a3 g k; omega; omega
        have hlo2 : ∀ g, KB1 g → lo ≤ g ∧ g < s1.n := fun g hg => by rcases gB g hg with k | k; have := a4 g k; omega; omega
        by_cases h14 : r1.length < 4
        · have d5 : decide (((r1.take 4).length : Int) < 4) = true := decide_eq_true (by omega)
          have hnc := n3 (by omega)
          rw [List.drop_of_length_le (by omega), List.append_nil, cutS_pend (.inl h14), List.append_nil] at hcut
          repeat (first | (refine aw_seq ?_) | (refine aw_reg0 (by simp only [SZ, Nat.reduceAdd]; exact rfl) ?_) | (refine aw_reg (by decide +kernel) (by simp only [SZ, Nat.reduceAdd]; exact rfl) ?_) | (refine aw_regS (by decide +kernel) (by simp only [SZ, Nat.reduceAdd]; exact rfl) ?_) | (refine arl_nil ?_) | (refine aw_skip ?_) | (refine aw_block ?_) | (refine aw_exit ?_) | (refine aw_ret ?_) | (refine arl_cons rfl rfl (by simp +decide only [aop, abuiltin, aeval, aintBin, bin_int, aload_bump, SS, reduceIte, reduceCtorEq, f0, fp1, l1, hhl1, d5]; exact rfl) (by first | rfl | with_reducible assumption) rfl ?_) | (refine arl_none rfl rfl (by simp +decide only [aop, abuiltin, aeval, aintBin, bin_int, aload_bump, SS, reduceIte, reduceCtorEq, f0, fp1, l1, hhl1, d5]; exact rfl) rfl rfl ?_) | (refine arl_off rfl rfl ?_) | (refine aw_condT (by simp +decide only [aop, abuiltin, aeval, aintBin, bin_int, aload_bump, SS, reduceIte, reduceCtorEq, f0, fp1, l1, hhl1, d5]; first | done | exact rfl) ?_) | (refine aw_condF (by simp +decide only [aop, abuiltin, aeval, aintBin, bin_int, aload_bump, SS, reduceIte, reduceCtorEq, f0, fp1, l1, hhl1, d5]; first | done | exact rfl) ?_))
          refine ⟨rfl, hEs.trans (Keeps.mono (G := fun _ => False) (by repeat (first | exact Keeps.refl _ _ | (refine Keeps.bumpR ?_ _))) (fun _ h => h.elim)), KH1, KB1, KX, L, f0, ?_, hG1.more (by first | omega | (simp only [n_bump, n_put]; omega) | (simp only [n_bump, n_put] at *; omega)), ?_⟩
          · show OwX oRowK _ _ _ BT (fr' 6) _
            rw [hcut, f6]; exact hOx1.up (by repeat (first | exact Keeps.refl _ _ | (refine Keeps.bumpR ?_ _)))
          · rw [hcut]
            have e : at_ + (r.length : Int) + c.length - r1.length = atk := by omega
            simp only
            rw [e]
            refine Prs.up ⟨a1, by omega, hlo1, hlo2, gHB, hv1, bv1, need, pos + n, hP1, ?_, ?_, fun _ => ⟨fun h => by omega, by omega⟩⟩ (by repeat (first | exact Keeps.refl _ _ | (refine Keeps.bumpR ?_ _)))
            · rw [if_pos rfl]; exact hO1
            · rw [if_pos rfl]; exact hB1
        · have d5 : decide (((r1.take 4).length : Int) < 4) = false := decide_eq_false (by omega)
          repeat (first | (refine aw_seq ?_) | (refine aw_reg0 (by simp only [SZ, Nat.reduceAdd]; exact rfl) ?_) | (refine aw_reg (by decide +kernel) (by simp only [SZ, Nat.reduceAdd]; exact rfl) ?_) | (refine aw_regS (by decide +kernel) (by simp only [SZ, Nat.reduceAdd]; exact rfl) ?_) | (refine arl_nil ?_) | (refine aw_skip ?_) | (refine aw_block ?_) | (refine aw_exit ?_) | (refine aw_ret ?_) | (refine arl_cons rfl rfl (by simp +decide only [aop, abuiltin, aeval, aintBin, bin_int, aload_bump, SS, reduceIte, reduceCtorEq, f0, fp1, l1, hhl1, d5]; exact rfl) (by first | rfl | with_reducible assumption) rfl ?_) | (refine arl_none rfl rfl (by simp +decide only [aop, abuiltin, aeval, aintBin, bin_int, aload_bump, SS, reduceIte, reduceCtorEq, f0, fp1, l1, hhl1, d5]; exact rfl) rfl rfl ?_) | (refine arl_off rfl rfl ?_) | (refine aw_condT (by simp +decide only [aop, abuiltin, aeval, aintBin, bin_int, aload_bump, SS, reduceIte, reduceCtorEq, f0, fp1, l1, hhl1, d5]; first | done | exact rfl) ?_) | (refine aw_condF (by simp +decide only [aop, abuiltin, aeval, aintBin, bin_int, aload_bump, SS, reduceIte, reduceCtorEq, f0, fp1, l1, hhl1, d5]; first | done | exact rfl) ?_))
          refine AW.mono (Q := fun e fq sq => WF sq ∧ Keeps (fun g => g = p) s1 sq ∧ fq 0 = .ptr p 0 ∧ fq 6 = xo ∧ ((e = .normal ∧ 0 ≤ hd r1 ∧ hd r1 ≤ M ∧ fq 1 = res ∧ Pob sq p hv1 bv1 M (hd r1) (pos + n) (fr + fk.length) atk 0) ∨ (e = .exit 0 ∧ (hd r1 < 0 ∨ M < hd r1) ∧ ∃ need', Pob sq p (.pl (.slice none 0 0)) (.pl (.slice none 0 0)) M need' (pos + n) (fr + fk.length) atk (judge M (hd r1))))) ?_ ?_
          · cases jg with
            | true =>
              have hk4 := hjg'.1 rfl
              repeat (first | (refine aw_seq ?_) | (refine aw_reg0 (by simp only [SZ, Nat.reduceAdd]; exact rfl) ?_) | (refine aw_reg (by decide +kernel) (by simp only [SZ, Nat.reduceAdd]; exact rfl) ?_) | (refine aw_regS (by decide +kernel) (by simp only [SZ, Nat.reduceAdd]; exact rfl) ?_) | (refine arl_nil ?_) | (refine aw_skip ?_) | (refine aw_block ?_) | (refine aw_exit ?_) | (refine aw_ret ?_) | (refine arl_cons rfl rfl (by simp +decide only [aop, abuiltin, aeval, aintBin, bin_int, aload_bump, SS, reduceIte, reduceCtorEq]; exact rfl) (by first | rfl | with_reducible assumption) rfl ?_) | (refine arl_none rfl rfl (by simp +decide only [aop, abuiltin, aeval, aintBin, bin_int, aload_bump, SS, reduceIte, reduceCtorEq]; exact rfl) rfl rfl ?_) | (refine arl_off rfl rfl ?_) | (refine aw_condT (by simp +decide only [aop, abuiltin, aeval, aintBin, bin_int, aload_bump, SS, reduceIte, reduceCtorEq]; first | done | exact rfl) ?_) | (refine aw_condF (by simp +decide only [aop, abuiltin, aeval, aintBin, bin_int, aload_bump, SS, reduceIte, reduceCtorEq]; first | done | exact rfl) ?_))
              refine ⟨(by repeat (first | assumption | (refine WF.bump ?_ _))), Keeps.mono (G := fun _ => False) (by repeat (first | exact Keeps.refl _ _ | (refine Keeps.bumpR ?_ _))) (fun _ h => h.elim), f0, f6, .inl ⟨rfl, ?_⟩⟩
              rw [hhdr hk4]
              rcases hPd with k | ⟨k1, k2, k3⟩
              · exact absurd k hk4
              · refine ⟨k1, k2, rfl, ?_⟩
                rw [← b5 (by omega)]
                exact hP1.up (by repeat (first | exact Keeps.refl _ _ | (refine Keeps.bumpR ?_ _)))
            | false =>
              have hk4 : rk.length < 4 := Decidable.of_not_not fun h => by have := hjg'.2 h; cases this
              have h4e : r1.length = 4 := by omega
              have hj := length_ok hw1 hP1 hO1.rd (by omega) (fun x hx => hby1 x (List.mem_of_mem_take hx))
              rw [show sval (r1.take 4) = hd r1 from rfl] at hj
              repeat (first | (refine aw_seq ?_) | (refine aw_reg0 (by simp only [SZ, Nat.reduceAdd]; exact rfl) ?_) | (refine aw_reg (by decide +kernel) (by simp only [SZ, Nat.reduceAdd]; exact rfl) ?_) | (refine aw_regS (by decide +kernel) (by simp only [SZ, Nat.reduceAdd]; exact rfl) ?_) | (refine arl_nil ?_) | (refine aw_skip ?_) | (refine aw_block ?_) | (refine aw_exit ?_) | (refine aw_ret ?_) | (refine arl_cons rfl rfl (by simp +decide only [aop, abuiltin, aeval, aintBin, bin_int, aload_bump, SS, reduceIte, reduceCtorEq, f0]; exact rfl) (by first | rfl | with_reducible assumption) rfl ?_) | (refine arl_none rfl rfl (by simp +decide only [aop, abuiltin, aeval, aintBin, bin_int, aload_bump, SS, reduceIte, reduceCtorEq, f0]; exact rfl) rfl rfl ?_) | (refine arl_off rfl rfl ?_) | (refine aw_condT (by simp +decide only [aop, abuiltin, aeval, aintBin, bin_int, aload_bump, SS, reduceIte, reduceCtorEq, f0]; first | done | exact rfl) ?_) | (refine aw_condF (by simp +decide only [aop, abuiltin, aeval, aintBin, bin_int, aload_bump, SS, reduceIte, reduceCtorEq, f0]; first | done | exact rfl) ?_))
              refine arl_call rfl rfl rfl rfl rfl rfl ((length_ok (by repeat (first | assumption | (refine WF.bump ?_ _))) (hP1.up (by repeat (first | exact Keeps.refl _ _ | (refine Keeps.bumpR ?_ _)))) (hO1.rd.up (by repeat (first | exact Keeps.refl _ _ | (refine Keeps.bumpR ?_ _)))) (by omega) (fun x hx => hby1 x (List.mem_of_mem_take hx))).wf (by repeat (first | assumption | (refine WF.bump ?_ _) | (refine WF.put ?_ (by simp only [n_bump, n_put, n_touch, n_kill] at *; omega) (by simp only [n_bump, n_put, n_touch, n_kill] at *; omega)))) |>.mono ?_)
              rw [show sval (r1.take 4) = hd r1 from rfl]
              rintro jd s2 ⟨hw2, hn2, hE2, rfl, hP2⟩
              refine ⟨rfl, ?_⟩
              replace hE2 : Keeps (fun g => g = p) s1 s2 := Keeps.trans (Keeps.mono (G := fun _ => False) (show Ext s1 _ from (by repeat (first | exact Keeps.refl _ _ | (refine Keeps.bumpR ?_ _)))) (fun _ h => h.elim)) hE2
              repeat (first | (refine aw_seq ?_) | (refine aw_reg0 (by simp only [SZ, Nat.reduceAdd]; exact rfl) ?_) | (refine aw_reg (by decide +kernel) (by simp only [SZ, Nat.reduceAdd]; exact rfl) ?_) | (refine aw_regS (by decide +kernel) (by simp only [SZ, Nat.reduceAdd]; exact rfl) ?_) | (refine arl_nil ?_) | (refine aw_skip ?_) | (refine aw_block ?_) | (refine aw_exit ?_) | (refine aw_ret ?_) | (refine arl_cons rfl rfl (by simp +decide only [aop, abuiltin, aeval, aintBin, bin_int, aload_bump, SS, reduceIte, reduceCtorEq, fp5, fs3]; exact rfl) (by first | rfl | with_reducible assumption) rfl ?_) | (refine arl_none rfl rfl (by simp +decide only [aop, abuiltin, aeval, aintBin, bin_int, aload_bump, SS, reduceIte, reduceCtorEq, fp5, fs3]; exact rfl) rfl rfl ?_) | (refine arl_off rfl rfl ?_) | (refine aw_condT (by simp +decide only [aop, abuiltin, aeval, aintBin, bin_int, aload_bump, SS, reduceIte, reduceCtorEq, fp5, fs3]; first | done | exact rfl) ?_) | (refine aw_condF (by simp +decide only [aop, abuiltin, aeval, aintBin, bin_int, aload_bump, SS, reduceIte, reduceCtorEq, fp5, fs3]; first | done | exact rfl) ?_))
              refine arl_storeX (off := 5 + 3) (y := i64 (judge M (hd r1))) rfl rfl rfl rfl rfl hP2 szErr rfl rfl rfl (by simp) ?_
              intro s3 hn3 hwf3 hK3 hg3 hD3
              have hw3 : WF s3 := hwf3 (by repeat (first | assumption | (refine WF.bump ?_ _)))
              have hP3 : Pob s3 p hv1 bv1 M (if judge M (hd r1) = 0 then hd r1 else need) (pos + n) (fr + fk.length) atk (judge M (hd r1)) := hg3
              have hE3 : Keeps (fun g => g = p) s1 s3 := hE2.trans (Keeps.trans (Keeps.mono (G := fun _ => False) (by repeat (first | exact Keeps.refl _ _ | (refine Keeps.bumpR ?_ _))) (fun _ h => h.elim)) hK3)
              obtain ⟨k0, k1, k2, k3, k4, k5, k6, k7, k8⟩ := hP3.lds
              by_cases hj0 : judge M (hd r1) = 0
              · have q5 : (judge M (hd r1) != 0) = false := by simp [hj0]
                rw [if_pos hj0] at hP3
                have hjr : 0 ≤ hd r1 ∧ hd r1 ≤ M := by
                  unfold judge at hj0
                  split at hj0
                  · cases hj0
                  · split at hj0
                    · cases hj0
                    · omega
                repeat (first | (refine aw_seq ?_) | (refine aw_reg0 (by simp only [SZ, Nat.reduceAdd]; exact rfl) ?_) | (refine aw_reg (by decide +kernel) (by simp only [SZ, Nat.reduceAdd]; exact rfl) ?_) | (refine aw_regS (by decide +kernel) (by simp only [SZ, Nat.reduceAdd]; exact rfl) ?_) | (refine arl_nil ?_) | (refine aw_skip ?_) | (refine aw_block ?_) | (refine aw_exit ?_) | (refine aw_ret ?_) | (refine arl_cons rfl rfl (by simp +decide only [aop, abuiltin, aeval, aintBin, bin_int, aload_bump, SS, reduceIte, reduceCtorEq, f0, fp5, fs3, k7, q5]; exact rfl) (by first | rfl | with_reducible assumption) rfl ?_) | (refine arl_none rfl rfl (by simp +decide only [aop, abuiltin, aeval, aintBin, bin_int, aload_bump, SS, reduceIte, reduceCtorEq, f0, fp5, fs3, k7, q5]; exact rfl) rfl rfl ?_) | (refine arl_off rfl rfl ?_) | (refine aw_condT (by simp +decide only [aop, abuiltin, aeval, aintBin, bin_int, aload_bump, SS, reduceIte, reduceCtorEq, f0, fp5, fs3, k7, q5]; first | done | exact rfl) ?_) | (refine aw_condF (by simp +decide only [aop, abuiltin, aeval, aintBin, bin_int, aload_bump, SS, reduceIte, reduceCtorEq, f0, fp5, fs3, k7, q5]; first | done | exact rfl) ?_))
                rw [hj0] at hP3
                exact ⟨(by repeat (first | assumption | (refine WF.bump ?_ _))), hE3.trans (Keeps.mono (G := fun _ => False) (by repeat (first | exact Keeps.refl _ _ | (refine Keeps.bumpR ?_ _))) (fun _ h => h.elim)), f0, f6, .inl ⟨rfl, hjr.1, hjr.2, rfl, hP3.up (by repeat (first | exact Keeps.refl _ _ | (refine Keeps.bumpR ?_ _)))⟩⟩
              · have q5 : (judge M (hd r1) != 0) = true := by simp [hj0]
                have hjr : hd r1 < 0 ∨ M < hd r1 := by
                  unfold judge at hj0
                  split at hj0
                  · exact .inl (by assumption)
                  · split at hj0
                    · exact .inr (by omega)
                    · exact absurd rfl hj0
                repeat (first | (refine aw_seq ?_) | (refine aw_reg0 (by simp only [SZ, Nat.reduceAdd]; exact rfl) ?_) | (refine aw_reg (by decide +kernel) (by simp only [SZ, Nat.reduceAdd]; exact rfl) ?_) | (refine aw_regS (by decide +kernel) (by simp only [SZ, Nat.reduceAdd]; exact rfl) ?_) | (refine arl_nil ?_) | (refine aw_skip ?_) | (refine aw_block ?_) | (refine aw_exit ?_) | (refine aw_ret ?_) | (refine arl_cons rfl rfl (by simp +decide only [aop, abuiltin, aeval, aintBin, bin_int, aload_bump, SS, reduceIte, reduceCtorEq, f0, fp5, fs3, k7, q5, fp1]; exact rfl) (by first | rfl | with_reducible assumption) rfl ?_) | (refine arl_none rfl rfl (by simp +decide only [aop, abuiltin, aeval, aintBin, bin_int, aload_bump, SS, reduceIte, reduceCtorEq, f0, fp5, fs3, k7, q5, fp1]; exact rfl) rfl rfl ?_) | (refine arl_off rfl rfl ?_) | (refine aw_condT (by simp +decide only [aop, abuiltin, aeval, aintBin, bin_int, aload_bump, SS, reduceIte, reduceCtorEq, f0, fp5, fs3, k7, q5, fp1]; first | done | exact rfl) ?_) | (refine aw_condF (by simp +decide only [aop, abuiltin, aeval, aintBin, bin_int, aload_bump, SS, reduceIte, reduceCtorEq, f0, fp5, fs3, k7, q5, fp1]; first | done | exact rfl) ?_))
                refine arl_storeX (off := 1) (y := .pl (.slice none 0 0)) rfl rfl rfl rfl rfl hP3 szB rfl rfl rfl (by simp) ?_
                intro s4 hn4 hwf4 hK4 hg4 hD4
                have hw4 : WF s4 := hwf4 (by repeat (first | assumption | (refine WF.bump ?_ _)))
                repeat (first | (refine aw_seq ?_) | (refine aw_reg0 (by simp only [SZ, Nat.reduceAdd]; exact rfl) ?_) | (refine aw_reg (by decide +kernel) (by simp only [SZ, Nat.reduceAdd]; exact rfl) ?_) | (refine aw_regS (by decide +kernel) (by simp only [SZ, Nat.reduceAdd]; exact rfl) ?_) | (refine arl_nil ?_) | (refine aw_skip ?_) | (refine aw_block ?_) | (refine aw_exit ?_) | (refine aw_ret ?_) | (refine arl_cons rfl rfl (by simp +decide only [aop, abuiltin, aeval, aintBin, bin_int, aload_bump, SS, reduceIte, reduceCtorEq, fp2]; exact rfl) (by first | rfl | with_reducible assumption) rfl ?_) | (refine arl_none rfl rfl (by simp +decide only [aop, abuiltin, aeval, aintBin, bin_int, aload_bump, SS, reduceIte, reduceCtorEq, fp2]; exact rfl) rfl rfl ?_) | (refine arl_off rfl rfl ?_) | (refine aw_condT (by simp +decide only [aop, abuiltin, aeval, aintBin, bin_int, aload_bump, SS, reduceIte, reduceCtorEq, fp2]; first | done | exact rfl) ?_) | (refine aw_condF (by simp +decide only [aop, abuiltin, aeval, aintBin, bin_int, aload_bump, SS, reduceIte, reduceCtorEq, fp2]; first | done | exact rfl) ?_))
                refine arl_storeX (off := 2) (y := .pl (.slice none 0 0)) rfl rfl rfl rfl rfl hg4 szB rfl rfl rfl (by simp) ?_
                intro s5 hn5 hwf5 hK5 hg5 hD5
                have hw5 : WF s5 := hwf5 (by repeat (first | assumption | (refine WF.bump ?_ _)))
                repeat (first | (refine aw_seq ?_) | (refine aw_reg0 (by simp only [SZ, Nat.reduceAdd]; exact rfl) ?_) | (refine aw_reg (by decide +kernel) (by simp only [SZ, Nat.reduceAdd]; exact rfl) ?_) | (refine aw_regS (by decide +kernel) (by simp only [SZ, Nat.reduceAdd]; exact rfl) ?_) | (refine arl_nil ?_) | (refine aw_skip ?_) | (refine aw_block ?_) | (refine aw_exit ?_) | (refine aw_ret ?_) | (refine arl_cons rfl rfl (by simp +decide only [aop, abuiltin, aeval, aintBin, bin_int, aload_bump, SS, reduceIte, reduceCtorEq]; exact rfl) (by first | rfl | with_reducible assumption) rfl ?_) | (refine arl_none rfl rfl (by simp +decide only [aop, abuiltin, aeval, aintBin, bin_int, aload_bump, SS, reduceIte, reduceCtorEq]; exact rfl) rfl rfl ?_) | (refine arl_off rfl rfl ?_) | (refine aw_condT (by simp +decide only [aop, abuiltin, aeval, aintBin, bin_int, aload_bump, SS, reduceIte, reduceCtorEq]; first | done | exact rfl) ?_) | (refine aw_condF (by simp +decide only [aop, abuiltin, aeval, aintBin, bin_int, aload_bump, SS, reduceIte, reduceCtorEq]; first | done | exact rfl) ?_))
                refine ⟨(by repeat (first | assumption | (refine WF.bump ?_ _))), ?_, f0, f6, .inr ⟨rfl, hjr, _, Pob.up hg5 (by repeat (first | exact Keeps.refl _ _ | (refine Keeps.bumpR ?_ _)))⟩⟩
                exact hE3.trans ((Keeps.trans (Keeps.mono (G := fun _ => False) (by repeat (first | exact Keeps.refl _ _ | (refine Keeps.bumpR ?_ _))) (fun _ h => h.elim)) hK4).trans ((Keeps.trans (Keeps.mono (G := fun _ => False) (by repeat (first | exact Keeps.refl _ _ | (refine Keeps.bumpR ?_ _))) (fun _ h => h.elim)) hK5).trans (Keeps.mono (G := fun _ => False) (by repeat (first | exact Keeps.refl _ _ | (refine Keeps.bumpR ?_ _))) (fun _ h => h.elim))))
          · rintro e2 fq sq ⟨hwq, hEq, g0, g6, hor⟩
            have hNq := hEq.n
            have hnp : ∀ g, KH1 g → g ≠ p := fun g hg => by have := hlo1 g hg; omega
            have hnpB : ∀ g, KB1 g → g ≠ p := fun g hg => by have := hlo2 g hg; omega
            have hEsq : Keeps (fun g => g = p ∨ KH g ∨ KB g) st sq := hEs.trans (hEq.mono (fun g hg => .inl hg))
            have hXp : ∀ g, KX g → g ≠ p := fun g hg => by have := hG.x g hg; omega
            have hLp : ∀ j g, L j g → g ≠ p := fun j g hg => by
              rcases hG.l j g hg with k | k
              · have := c4 g k; omega
              · omega
            have hOq := hOx1.keep hEq hXp hLp
            rcases hor with ⟨rfl, hd0, hdM, g1, hPq⟩ | ⟨rfl, hbad, need', hPq⟩
            · change AW _ _ _ _ _
              obtain ⟨k0, k1, k2, k3, k4, k5, k6, k7, k8⟩ := hPq.lds
              have hB2 := hB1.keep hEq hnpB
              have hH2 := hO1.keep hEq hnp
              have hRq := (hR1.mono (K' := fun g => Kc g ∧ g < st.n) (fun g hg => hg)).keep hEq (fun g hg => (hcK g hg.1).2.2)
              have hdl4 : (r1.drop 4).length = r1.length - 4 := List.length_drop
              by_cases hfull : (r1.length : Int) = 4 + hd r1
              · have q6 : (((r1.drop 4).length : Int) == hd r1) = true := by rw [hdl4]; simp; omega
                have hlit := fun id => litF1 hB2.rd id
                obtain ⟨g9, hg9⟩ : ∃ g, g = sq.n + 16 := ⟨_, rfl⟩
                repeat (first | (refine aw_seq ?_) | (refine aw_reg0 (by simp only [SZ, Nat.reduceAdd]; exact rfl) ?_) | (refine aw_reg (by decide +kernel) (by simp only [SZ, Nat.reduceAdd]; exact rfl) ?_) | (refine aw_regS (by decide +kernel) (by simp only [SZ, Nat.reduceAdd]; exact rfl) ?_) | (refine arl_nil ?_) | (refine aw_skip ?_) | (refine aw_block ?_) | (refine aw_exit ?_) | (refine aw_ret ?_) | (refine arl_cons rfl rfl (by simp +decide only [aop, abuiltin, aeval, aintBin, bin_int, aload_bump, SS, reduceIte, reduceCtorEq, g0, fp2, k2, hbl1, fp3, k3, q6, g6, hlit]; exact rfl) (by first | rfl | with_reducible assumption) rfl ?_) | (refine arl_none rfl rfl (by simp +decide only [aop, abuiltin, aeval, aintBin, bin_int, aload_bump, SS, reduceIte, reduceCtorEq, g0, fp2, k2, hbl1, fp3, k3, q6, g6, hlit]; exact rfl) rfl rfl ?_) | (refine arl_off rfl rfl ?_) | (refine aw_condT (by simp +decide only [aop, abuiltin, aeval, aintBin, bin_int, aload_bump, SS, reduceIte, reduceCtorEq, g0, fp2, k2, hbl1, fp3, k3, q6, g6, hlit]; first | done | exact rfl) ?_) | (refine aw_condF (by simp +decide only [aop, abuiltin, aeval, aintBin, bin_int, aload_bump, SS, reduceIte, reduceCtorEq, g0, fp2, k2, hbl1, fp3, k3, q6, g6, hlit]; first | done | exact rfl) ?_))
                refine arl_appX (k := oRowK) (K0 := KX) (L0 := L) (Kx := fun _ => True) (Kn := KB1) (K := fun g => KX g ∨ g = g9) (L := fun j g => (j < fk.length ∧ L j g) ∨ (j = fk.length ∧ KB1 g)) (xs := fk) (ns := [r1.drop 4]) TRo rfl rfl rfl (hOq.up (by repeat (first | assumption | exact Keeps.refl _ _ | (refine Keeps.bumpR ?_ _) | (refine Keeps.put ?_ (by assumption) (by simp only [n_bump, n_put, n_touch, n_kill] at *; omega))))) (RdL.one ⟨bv1, rfl, hB2.up (by repeat (first | assumption | exact Keeps.refl _ _ | (refine Keeps.bumpR ?_ _) | (refine Keeps.put ?_ (by assumption) (by simp only [n_bump, n_put, n_touch, n_kill] at *; omega))))⟩ rfl _ trivial _) (fun g hg => (hG1.xh g hg).2) ⟨fun hg => by have := hlo2 _ hg; simp only [n_bump] at this; omega, fun _ => .inr (by simp only [n_bump]; omega)⟩ (fun _ hg => .inl hg) (fun j g hj hg => .inl ⟨hj, hg⟩) (fun j g h1 h2 h3 => .inr ⟨by simp only [List.length_singleton] at h2; omega, h3⟩) ?hfr (by simp; omega) (by simp; omega) ?_
                case hfr =>
                  rw [get_put_ne _ (by simp only [n_bump]; omega)]
                  exact fresh hwq (by first | omega | (simp only [n_bump, n_put]; omega) | (simp only [n_bump, n_put] at *; omega))
                intro z s3 hO3 hn3 hK3 hwf3
                have hzs := hO3.solid
                have hw3 : WF s3 := hwf3 (by repeat (first | assumption | (refine WF.bump ?_ _) | (refine WF.put ?_ (by simp only [n_bump, n_put, n_touch, n_kill] at *; omega) (by simp only [n_bump, n_put, n_touch, n_kill] at *; omega)))) (by simp only [n_bump, n_put, n_touch, n_kill] at *; omega)
                replace hK3 : Keeps KX sq s3 := Keeps.trans (Keeps.mono (G := fun _ => False) (show Ext sq _ from (by repeat (first | assumption | exact Keeps.refl _ _ | (refine Keeps.bumpR ?_ _) | (refine Keeps.put ?_ (by assumption) (by simp only [n_bump, n_put, n_touch, n_kill] at *; omega))))) (fun _ h => h.elim)) hK3
                replace hn3 : s3.n = sq.n + 18 := by rw [hn3]; simp only [n_put, n_bump]
                have hP3 := hPq.keep hK3 (fun hg => hXp p hg rfl)
                repeat (first | (refine aw_seq ?_) | (refine aw_reg0 (by simp only [SZ, Nat.reduceAdd]; exact rfl) ?_) | (refine aw_reg (by decide +kernel) (by simp only [SZ, Nat.reduceAdd]; exact rfl) ?_) | (refine aw_regS (by decide +kernel) (by simp only [SZ, Nat.reduceAdd]; exact rfl) ?_) | (refine arl_nil ?_) | (refine aw_skip ?_) | (refine aw_block ?_) | (refine aw_exit ?_) | (refine aw_ret ?_) | (refine arl_cons rfl rfl (by simp +decide only [aop, abuiltin, aeval, aintBin, bin_int, aload_bump, SS, reduceIte, reduceCtorEq, g0, fp1]; exact rfl) (by first | rfl | with_reducible assumption) rfl ?_) | (refine arl_none rfl rfl (by simp +decide only [aop, abuiltin, aeval, aintBin, bin_int, aload_bump, SS, reduceIte, reduceCtorEq, g0, fp1]; exact rfl) rfl rfl ?_) | (refine arl_off rfl rfl ?_) | (refine aw_condT (by simp +decide only [aop, abuiltin, aeval, aintBin, bin_int, aload_bump, SS, reduceIte, reduceCtorEq, g0, fp1]; first | done | exact rfl) ?_) | (refine aw_condF (by simp +decide only [aop, abuiltin, aeval, aintBin, bin_int, aload_bump, SS, reduceIte, reduceCtorEq, g0, fp1]; first | done | exact rfl) ?_))
                refine arl_storeX (off := 1) (y := .pl (.slice none 0 0)) rfl rfl rfl rfl rfl hP3 szB rfl rfl rfl (by simp) ?_
                intro s4 hn4 hwf4 hK4 hg4 hD4
                have hw4 : WF s4 := hwf4 (by repeat (first | assumption | (refine WF.bump ?_ _)))
                repeat (first | (refine aw_seq ?_) | (refine aw_reg0 (by simp only [SZ, Nat.reduceAdd]; exact rfl) ?_) | (refine aw_reg (by decide +kernel) (by simp only [SZ, Nat.reduceAdd]; exact rfl) ?_) | (refine aw_regS (by decide +kernel) (by simp only [SZ, Nat.reduceAdd]; exact rfl) ?_) | (refine arl_nil ?_) | (refine aw_skip ?_) | (refine aw_block ?_) | (refine aw_exit ?_) | (refine aw_ret ?_) | (refine arl_cons rfl rfl (by simp +decide only [aop, abuiltin, aeval, aintBin, bin_int, aload_bump, SS, reduceIte, reduceCtorEq, fp2]; exact rfl) (by first | rfl | with_reducible assumption) rfl ?_) | (refine arl_none rfl rfl (by simp +decide only [aop, abuiltin, aeval, aintBin, bin_int, aload_bump, SS, reduceIte, reduceCtorEq, fp2]; exact rfl) rfl rfl ?_) | (refine arl_off rfl rfl ?_) | (refine aw_condT (by simp +decide only [aop, abuiltin, aeval, aintBin, bin_int, aload_bump, SS, reduceIte, reduceCtorEq, fp2]; first | done | exact rfl) ?_) | (refine aw_condF (by simp +decide only [aop, abuiltin, aeval, aintBin, bin_int, aload_bump, SS, reduceIte, reduceCtorEq, fp2]; first | done | exact rfl) ?_))
                refine arl_storeX (off := 2) (y := .pl (.slice none 0 0)) rfl rfl rfl rfl rfl hg4 szB rfl rfl rfl (by simp) ?_
                intro s5 hn5 hwf5 hK5 hg5 hD5
                have hw5 : WF s5 := hwf5 (by repeat (first | assumption | (refine WF.bump ?_ _)))
                have hP5 : Pob s5 p (.pl (.slice none 0 0)) (.pl (.slice none 0 0)) M (hd r1) (pos + n) (fr + fk.length) atk 0 := hg5
                obtain ⟨j0, j1, j2, j3, j4, j5, j6, j7, j8⟩ := hP5.lds
                have hwfr : IntKind.i64.wrap (fr + (fk.length : Int) + 1) = fr + (fk.length : Int) + 1 := wrap64_of (by omega) (by omega)
                repeat (first | (refine aw_seq ?_) | (refine aw_reg0 (by simp only [SZ, Nat.reduceAdd]; exact rfl) ?_) | (refine aw_reg (by decide +kernel) (by simp only [SZ, Nat.reduceAdd]; exact rfl) ?_) | (refine aw_regS (by decide +kernel) (by simp only [SZ, Nat.reduceAdd]; exact rfl) ?_) | (refine arl_nil ?_) | (refine aw_skip ?_) | (refine aw_block ?_) | (refine aw_exit ?_) | (refine aw_ret ?_) | (refine arl_cons rfl rfl (by simp +decide only [aop, abuiltin, aeval, aintBin, bin_int, aload_bump, SS, reduceIte, reduceCtorEq, g0, fp5, fs0, j5, hwfr]; exact rfl) (by first | rfl | with_reducible assumption) rfl ?_) | (refine arl_none rfl rfl (by simp +decide only [aop, abuiltin, aeval, aintBin, bin_int, aload_bump, SS, reduceIte, reduceCtorEq, g0, fp5, fs0, j5, hwfr]; exact rfl) rfl rfl ?_) | (refine arl_off rfl rfl ?_) | (refine aw_condT (by simp +decide only [aop, abuiltin, aeval, aintBin, bin_int, aload_bump, SS, reduceIte, reduceCtorEq, g0, fp5, fs0, j5, hwfr]; first | done | exact rfl) ?_) | (refine aw_condF (by simp +decide only [aop, abuiltin, aeval, aintBin, bin_int, aload_bump, SS, reduceIte, reduceCtorEq, g0, fp5, fs0, j5, hwfr]; first | done | exact rfl) ?_))
                refine arl_storeX (off := 5) (y := i64 (fr + (fk.length : Int) + 1)) rfl rfl rfl rfl rfl hP5 szI rfl rfl rfl (by simp) ?_
                intro s6 hn6 hwf6 hK6 hg6 hD6
                have hw6 : WF s6 := hwf6 (by repeat (first | assumption | (refine WF.bump ?_ _)))
                have hP6 : Pob s6 p (.pl (.slice none 0 0)) (.pl (.slice none 0 0)) M (hd r1) (pos + n) (fr + fk.length + 1) atk 0 := hg6
                obtain ⟨i0, i1, i2, i3, i4, i5, i6, i7, i8⟩ := hP6.lds
                repeat (first | (refine aw_seq ?_) | (refine aw_reg0 (by simp only [SZ, Nat.reduceAdd]; exact rfl) ?_) | (refine aw_reg (by decide +kernel) (by simp only [SZ, Nat.reduceAdd]; exact rfl) ?_) | (refine aw_regS (by decide +kernel) (by simp only [SZ, Nat.reduceAdd]; exact rfl) ?_) | (refine arl_nil ?_) | (refine aw_skip ?_) | (refine aw_block ?_) | (refine aw_exit ?_) | (refine aw_ret ?_) | (refine arl_cons rfl rfl (by simp +decide only [aop, abuiltin, aeval, aintBin, bin_int, aload_bump, SS, reduceIte, reduceCtorEq, g0, fp4, i4, fp5, fs1]; exact rfl) (by first | rfl | with_reducible assumption) rfl ?_) | (refine arl_none rfl rfl (by simp +decide only [aop, abuiltin, aeval, aintBin, bin_int, aload_bump, SS, reduceIte, reduceCtorEq, g0, fp4, i4, fp5, fs1]; exact rfl) rfl rfl ?_) | (refine arl_off rfl rfl ?_) | (refine aw_condT (by simp +decide only [aop, abuiltin, aeval, aintBin, bin_int, aload_bump, SS, reduceIte, reduceCtorEq, g0, fp4, i4, fp5, fs1]; first | done | exact rfl) ?_) | (refine aw_condF (by simp +decide only [aop, abuiltin, aeval, aintBin, bin_int, aload_bump, SS, reduceIte, reduceCtorEq, g0, fp4, i4, fp5, fs1]; first | done | exact rfl) ?_))
                refine arl_storeX (off := 5 + 1) (y := i64 (pos + n)) rfl rfl rfl rfl rfl hP6 szI rfl rfl rfl (by simp) ?_
                intro s7 hn7 hwf7 hK7 hg7 hD7
                have hw7 : WF s7 := hwf7 (by repeat (first | assumption | (refine WF.bump ?_ _)))
                have hP7 : Pob s7 p (.pl (.slice none 0 0)) (.pl (.slice none 0 0)) M (hd r1) (pos + n) (fr + fk.length + 1) (pos + n) 0 := hg7
                have hp37 : Keeps (fun g => g = p) s3 s7 := (Keeps.trans (Keeps.mono (G := fun _ => False) (by repeat (first | exact Keeps.refl _ _ | (refine Keeps.bumpR ?_ _))) (fun _ h => h.elim)) hK4).trans ((Keeps.trans (Keeps.mono (G := fun _ => False) (by repeat (first | exact Keeps.refl _ _ | (refine Keeps.bumpR ?_ _))) (fun _ h => h.elim)) hK5).trans ((Keeps.trans (Keeps.mono (G := fun _ => False) (by repeat (first | exact Keeps.refl _ _ | (refine Keeps.bumpR ?_ _))) (fun _ h => h.elim)) hK6).trans (Keeps.trans (Keeps.mono (G := fun _ => False) (by repeat (first | exact Keeps.refl _ _ | (refine Keeps.bumpR ?_ _))) (fun _ h => h.elim)) hK7)))
                have hN7 := hp37.n
                have hKB1p : ∀ g, KB1 g → g ≠ p := hnpB
                have hO7 := hO3.keep hp37 (fun g hg => by rcases hg with hg | hg; exact hXp g hg; show ¬ g = p; omega) (fun j g hg => by rcases hg with ⟨_, hg⟩ | ⟨_, hg⟩; exact hLp j g hg; exact hnpB g hg)
                have hRq7 := (hRq.keep hK3 (fun g hg hg' => by have := hG.x g hg'; have := hg.2; omega)).keep hp37 (fun g hg => (hcK g hg.1).2.2)
                have hE7 : Keeps (fun g => g = p ∨ KH g ∨ KB g) st s7 := (Keeps.call hEsq hK3 hw (fun g hg => .inr (hG.x g hg).1)).trans (hp37.mono (fun g hg => .inl hg))
                repeat (first | (refine aw_seq ?_) | (refine aw_reg0 (by simp only [SZ, Nat.reduceAdd]; exact rfl) ?_) | (refine aw_reg (by decide +kernel) (by simp only [SZ, Nat.reduceAdd]; exact rfl) ?_) | (refine aw_regS (by decide +kernel) (by simp only [SZ, Nat.reduceAdd]; exact rfl) ?_) | (refine arl_nil ?_) | (refine aw_skip ?_) | (refine aw_block ?_) | (refine aw_exit ?_) | (refine aw_ret ?_) | (refine arl_cons rfl rfl (by simp +decide only [aop, abuiltin, aeval, aintBin, bin_int, aload_bump, SS, reduceIte, reduceCtorEq]; exact rfl) (by first | rfl | with_reducible assumption) rfl ?_) | (refine arl_none rfl rfl (by simp +decide only [aop, abuiltin, aeval, aintBin, bin_int, aload_bump, SS, reduceIte, reduceCtorEq]; exact rfl) rfl rfl ?_) | (refine arl_off rfl rfl ?_) | (refine aw_condT (by simp +decide only [aop, abuiltin, aeval, aintBin, bin_int, aload_bump, SS, reduceIte, reduceCtorEq]; first | done | exact rfl) ?_) | (refine aw_condF (by simp +decide only [aop, abuiltin, aeval, aintBin, bin_int, aload_bump, SS, reduceIte, reduceCtorEq]; first | done | exact rfl) ?_))
                refine ⟨ck.length - n, by omega, hE7.trans (Keeps.mono (G := fun _ => False) (by repeat (first | exact Keeps.refl _ _ | (refine Keeps.bumpR ?_ _))) (fun _ h => h.elim)), [], ck.drop n, fk ++ [r1.drop 4], pos + n, fun _ => False, fun _ => False, fun g => KX g ∨ g = g9, fun j g => (j < fk.length ∧ L j g) ∨ (j = fk.length ∧ KB1 g), by rw [List.length_drop], g0, ?_, hO7.up (by repeat (first | exact Keeps.refl _ _ | (refine Keeps.bumpR ?_ _))), (show Prs s7 lo p (fun _ => False) (fun _ => False) M [] (fr + ((fk ++ [r1.drop 4]).length : Int)) (pos + n) 0 from ⟨a1, by omega, fun _ hg => hg.elim, fun _ hg => hg.elim, fun _ hg => hg.elim, _, _, hd r1, pos + n, ?_, .inl ⟨by simp, rfl⟩, .inl ⟨by simp, rfl⟩, fun _ => ⟨fun h => by simp at h, by simp⟩⟩).up (by repeat (first | exact Keeps.refl _ _ | (refine Keeps.bumpR ?_ _))), .inl (by simp), ?_, ?_, by omega, ?_, ?_, ?_⟩
                · show RdB _ _ (fq 1) _
                  rw [g1]; exact hRq7.up (by repeat (first | exact Keeps.refl _ _ | (refine Keeps.bumpR ?_ _)))
                · rw [List.length_append, List.length_singleton, show fr + ((fk.length + 1 : Nat) : Int) = fr + (fk.length : Int) + 1 by omega]
                  exact hP7
                · rw [hcut, cut_frame (by omega) hd0 hdM hfull, List.nil_append, List.append_assoc]
                  rfl
                · simp only [List.length_nil, List.length_drop]; omega
                · intro x hx
                  rw [List.nil_append] at hx
                  exact hbyk x (List.mem_append_right _ (List.mem_of_mem_drop hx))
                · simp only [List.length_nil, List.length_drop, List.length_append, List.length_singleton]; omega
                · have hGq := hG1.more (show s1.n ≤ s7.n by omega)
                  refine Grp.more ⟨fun _ hg => hg.elim, fun _ hg => hg.elim, ?_, ?_, ?_, fun _ _ _ => ⟨fun h => h, fun h => h⟩, fun _ _ => ⟨fun h => h, fun h => h⟩⟩ (show s7.n ≤ _ from (by first | omega | (simp only [n_bump, n_put]; omega) | (simp only [n_bump, n_put] at *; omega)))
                  · rintro g (hg | hg)
                    · exact hGq.x g hg
                    · omega
                  · rintro j g (⟨_, hg⟩ | ⟨_, hg⟩)
                    · exact hGq.l j g hg
                    · exact hGq.b g hg
                  · rintro i j g (⟨_, hg⟩ | ⟨e1, hg⟩) (⟨_, hg'⟩ | ⟨e2, hg'⟩)
                    · exact hG.d i j g hg hg'
                    · exact absurd hg' (hG1.lh i g hg).2
                    · exact absurd hg (hG1.lh j g hg').2
                    · omega
              · have q6 : (((r1.drop 4).length : Int) == hd r1) = false := by rw [hdl4]; simp; omega
                repeat (first | (refine aw_seq ?_) | (refine aw_reg0 (by simp only [SZ, Nat.reduceAdd]; exact rfl) ?_) | (refine aw_reg (by decide +kernel) (by simp only [SZ, Nat.reduceAdd]; exact rfl) ?_) | (refine aw_regS (by decide +kernel) (by simp only [SZ, Nat.reduceAdd]; exact rfl) ?_) | (refine arl_nil ?_) | (refine aw_skip ?_) | (refine aw_block ?_) | (refine aw_exit ?_) | (refine aw_ret ?_) | (refine arl_cons rfl rfl (by simp +decide only [aop, abuiltin, aeval, aintBin, bin_int, aload_bump, SS, reduceIte, reduceCtorEq, g0, fp2, k2, hbl1, fp3, k3, q6]; exact rfl) (by first | rfl | with_reducible assumption) rfl ?_) | (refine arl_none rfl rfl (by simp +decide only [aop, abuiltin, aeval, aintBin, bin_int, aload_bump, SS, reduceIte, reduceCtorEq, g0, fp2, k2, hbl1, fp3, k3, q6]; exact rfl) rfl rfl ?_) | (refine arl_off rfl rfl ?_) | (refine aw_condT (by simp +decide only [aop, abuiltin, aeval, aintBin, bin_int, aload_bump, SS, reduceIte, reduceCtorEq, g0, fp2, k2, hbl1, fp3, k3, q6]; first | done | exact rfl) ?_) | (refine aw_condF (by simp +decide only [aop, abuiltin, aeval, aintBin, bin_int, aload_bump, SS, reduceIte, reduceCtorEq, g0, fp2, k2, hbl1, fp3, k3, q6]; first | done | exact rfl) ?_))
                refine ⟨ck.length - n, by omega, hEsq.trans (Keeps.mono (G := fun _ => False) (by repeat (first | exact Keeps.refl _ _ | (refine Keeps.bumpR ?_ _))) (fun _ h => h.elim)), r1, ck.drop n, fk, atk, KH1, KB1, KX, L, by rw [List.length_drop], g0, ?_, ?_, Prs.up ⟨a1, by omega, fun g hg => by have := hlo1 g hg; omega, fun g hg => by have := hlo2 g hg; omega, gHB, hv1, bv1, hd r1, pos + n, hPq, by rw [if_pos rfl]; exact hH2, by rw [if_pos rfl]; exact hB2, fun _ => ⟨fun _ => rfl, by omega⟩⟩ (by repeat (first | exact Keeps.refl _ _ | (refine Keeps.bumpR ?_ _))), ?_, hcut, ?_, hatk, ?_, ?_, (hG1.more hNq).more (by first | omega | (simp only [n_bump, n_put]; omega) | (simp only [n_bump, n_put] at *; omega))⟩
                · show RdB _ _ (fq 1) _
                  rw [g1]; exact hRq.up (by repeat (first | exact Keeps.refl _ _ | (refine Keeps.bumpR ?_ _)))
                · show OwX oRowK _ _ _ BT (fq 6) _
                  rw [g6]; exact hOq.up (by repeat (first | exact Keeps.refl _ _ | (refine Keeps.bumpR ?_ _)))
                · refine .inr ⟨hd0, hdM, ?_⟩
                  by_cases hk4 : rk.length < 4
                  · omega
                  · rw [hhdr hk4] at hfull ⊢
                    rw [b5 (by omega)] at n4
                    omega
                · rw [List.length_drop]; omega
                · intro x hx
                  rcases List.mem_append.1 hx with hx | hx
                  · exact hby1 x hx
                  · exact hbyk x (List.mem_append_right _ (List.mem_of_mem_drop hx))
                · rw [List.length_drop]; omega
            · simp only [seqQ, blockQ]
              rw [if_neg (by decide)]
              have hq : cutS M (r1 ++ ck.drop n) = ([], r1 ++ ck.drop n, judge M (hd r1)) := by
                have hh := hd_app (ck.drop n) (r := r1) (by omega)
                rw [cutS_step, if_neg (by rw [List.length_append]; omega), hh]
                unfold judge
                by_cases hx : hd r1 < 0
                · rw [if_pos hx, if_pos hx]
                · rw [if_neg hx, if_neg hx, if_pos (by omega), if_pos (by omega)]
              have hj0 : judge M (hd r1) ≠ 0 := by
                unfold judge
                by_cases hx : hd r1 < 0
                · rw [if_pos hx]; decide
                · rw [if_neg hx, if_pos (by omega)]; decide
              rw [hq, List.append_nil] at hcut
              have hll : (r1 ++ ck.drop n).length = rk.length + ck.length := by rw [List.length_append, List.length_drop]; omega
              refine ⟨trivial, hEsq, fun _ => False, fun _ => False, KX, L, g0, ?_, ?_, ?_⟩
              · rw [hcut, g6]; exact hOq
              · exact ⟨fun g hg => hg.elim, fun g hg => hg.elim, (hG1.more hNq).x, (hG1.more hNq).l, hG.d, fun _ _ _ => ⟨fun h => h, fun h => h⟩, fun _ _ => ⟨fun h => h, fun h => h⟩⟩
              · rw [hcut]
                have e : at_ + (r.length : Int) + c.length - (r1 ++ ck.drop n).length = atk := by rw [hll]; omega
                simp only
                rw [e]
                exact ⟨a1, by omega, fun g hg => hg.elim, fun g hg => hg.elim, fun _ hg => hg.elim, _, _, need', pos + n, hPq, by rw [if_neg hj0]; exact .inl ⟨rfl, rfl⟩, by rw [if_neg hj0]; exact .inl ⟨rfl, rfl⟩, fun h => absurd h hj0⟩
      · have d1 : decide ((ck.length : Int) > 0) = false := decide_eq_false (by omega)
        obtain rfl : ck = [] := List.eq_nil_of_length_eq_zero (by omega)
        rw [List.append_nil, cutS_pend hPd, List.append_nil] at hcut
        repeat (first | (refine aw_seq ?_) | (refine aw_reg0 (by simp only [SZ, Nat.reduceAdd]; exact rfl) ?_) | (refine aw_reg (by decide +kernel) (by simp only [SZ, Nat.reduceAdd]; exact rfl) ?_) | (refine aw_regS (by decide +kernel) (by simp only [SZ, Nat.reduceAdd]; exact rfl) ?_) | (refine arl_nil ?_) | (refine aw_skip ?_) | (refine aw_block ?_) | (refine aw_exit ?_) | (refine aw_ret ?_) | (refine arl_cons rfl rfl (by simp +decide only [aop, abuiltin, aeval, aintBin, bin_int, aload_bump, SS, reduceIte, reduceCtorEq, f1, hrl, d1]; exact rfl) (by first | rfl | with_reducible assumption) rfl ?_) | (refine arl_none rfl rfl (by simp +decide only [aop, abuiltin, aeval, aintBin, bin_int, aload_bump, SS, reduceIte, reduceCtorEq, f1, hrl, d1]; exact rfl) rfl rfl ?_) | (refine arl_off rfl rfl ?_) | (refine aw_condT (by simp +decide only [aop, abuiltin, aeval, aintBin, bin_int, aload_bump, SS, reduceIte, reduceCtorEq, f1, hrl, d1]; first | done | exact rfl) ?_) | (refine aw_condF (by simp +decide only [aop, abuiltin, aeval, aintBin, bin_int, aload_bump, SS, reduceIte, reduceCtorEq, f1, hrl, d1]; first | done | exact rfl) ?_))
        refine ⟨rfl, hE.trans (Keeps.mono (G := fun _ => False) (by repeat (first | exact Keeps.refl _ _ | (refine Keeps.bumpR ?_ _))) (fun _ h => h.elim)), KHk, KBk, KX, L, f0, ?_, hG.more (by first | omega | (simp only [n_bump, n_put]; omega) | (simp only [n_bump, n_put] at *; omega)), ?_⟩
        · show OwX oRowK _ _ _ BT (fr' 6) _
          rw [hcut, f6]; exact hO.up (by repeat (first | exact Keeps.refl _ _ | (refine Keeps.bumpR ?_ _)))
        · rw [hcut]
          have e : at_ + (r.length : Int) + c.length - rk.length = atk := by simp only [List.length_nil] at hlen; omega
          simp only
          rw [e]
          exact hP.up (by repeat (first | exact Keeps.refl _ _ | (refine Keeps.bumpR ?_ _)))
    · refine ⟨Keeps.mono (G := fun _ => False) (by repeat (first | exact Keeps.refl _ _ | (refine Keeps.bumpR ?_ _))) (fun _ h => h.elim), r, c, [], at_, KH, KB, fun _ => False, fun _ _ => False, rfl, rfl, hc.up (by repeat (first | exact Keeps.refl _ _ | (refine Keeps.bumpR ?_ _))), OwX.nil, ?_, hpd rfl, rfl, rfl, Int.le_refl _, hby, by simp, ?_⟩
      · simpa using h.up (by repeat (first | exact Keeps.refl _ _ | (refine Keeps.bumpR ?_ _)))
      · exact ⟨fun g hg => .inl hg, fun g hg => .inl hg, fun g hg => hg.elim, fun _ g hg => hg.elim, fun _ _ g hg => hg.elim, fun _ g hg => hg.elim, fun g hg => hg.elim⟩
    rintro e fr1 s1 ⟨hw1, hn1, rfl, hE1, KHk, KBk, KX, L, f0, hO, hG, hP⟩
    have hos := hO.solid
    obtain ⟨a1, a2, a3, a4, a5, hv, bv, need, pos, b1, b2, b3, b4⟩ := id hP
    obtain ⟨l0, l1, l2, l3, l4, l5, l6, l7, l8⟩ := b1.lds
    repeat (first | (refine aw_seq ?_) | (refine aw_reg0 (by simp only [SZ, Nat.reduceAdd]; exact rfl) ?_) | (refine aw_reg (by decide +kernel) (by simp only [SZ, Nat.reduceAdd]; exact rfl) ?_) | (refine aw_regS (by decide +kernel) (by simp only [SZ, Nat.reduceAdd]; exact rfl) ?_) | (refine arl_nil ?_) | (refine aw_skip ?_) | (refine aw_block ?_) | (refine aw_exit ?_) | (refine aw_ret ?_) | (refine arl_cons rfl rfl (by simp +decide only [aop, abuiltin, aeval, aintBin, bin_int, aload_bump, SS, reduceIte, reduceCtorEq, f0, fp5, fs3, l7]; exact rfl) (by first | rfl | with_reducible assumption) rfl ?_) | (refine arl_none rfl rfl (by simp +decide only [aop, abuiltin, aeval, aintBin, bin_int, aload_bump, SS, reduceIte, reduceCtorEq, f0, fp5, fs3, l7]; exact rfl) rfl rfl ?_) | (refine arl_off rfl rfl ?_) | (refine aw_condT (by simp +decide only [aop, abuiltin, aeval, aintBin, bin_int, aload_bump, SS, reduceIte, reduceCtorEq, f0, fp5, fs3, l7]; first | done | exact rfl) ?_) | (refine aw_condF (by simp +decide only [aop, abuiltin, aeval, aintBin, bin_int, aload_bump, SS, reduceIte, reduceCtorEq, f0, fp5, fs3, l7]; first | done | exact rfl) ?_))
    refine ⟨.inr rfl, _, rfl, hE1.trans (Keeps.mono (G := fun _ => False) (by repeat (first | exact Keeps.refl _ _ | (refine Keeps.bumpR ?_ _))) (fun _ h => h.elim)), _, KX, KHk, KBk, L, ?_, hos, ?_, hG.more (by first | omega | (simp only [n_bump, n_put]; omega) | (simp only [n_bump, n_put] at *; omega)), ?_⟩
    · unfold fdq; rw [if_pos rfl]; rfl
    · unfold fdq; rw [if_pos rfl]; exact hO.up (by repeat (first | exact Keeps.refl _ _ | (refine Keeps.bumpR ?_ _)))
    · unfold fdq fda; rw [if_pos rfl, if_pos rfl]; exact hP.up (by repeat (first | exact Keeps.refl _ _ | (refine Keeps.bumpR ?_ _)))
  · obtain ⟨a1, a2, a3, a4, a5, hv, bv, need, pos, b1, b2, b3, b4⟩ := id h
    obtain ⟨l0, l1, l2, l3, l4, l5, l6, l7, l8⟩ := b1.lds
    have q1 : (err == 0) = false := by simp [he]
    repeat (first | (refine aw_seq ?_) | (refine aw_reg0 (by simp only [SZ, Nat.reduceAdd]; exact rfl) ?_) | (refine aw_reg (by decide +kernel) (by simp only [SZ, Nat.reduceAdd]; exact rfl) ?_) | (refine aw_regS (by decide +kernel) (by simp only [SZ, Nat.reduceAdd]; exact rfl) ?_) | (refine arl_nil ?_) | (refine aw_skip ?_) | (refine aw_block ?_) | (refine aw_exit ?_) | (refine aw_ret ?_) | (refine arl_cons rfl rfl (by simp +decide only [aop, abuiltin, aeval, aintBin, bin_int, aload_bump, SS, reduceIte, reduceCtorEq]; exact rfl) (by first | rfl | with_reducible assumption) rfl ?_) | (refine arl_none rfl rfl (by simp +decide only [aop, abuiltin, aeval, aintBin, bin_int, aload_bump, SS, reduceIte, reduceCtorEq]; exact rfl) rfl rfl ?_) | (refine arl_off rfl rfl ?_) | (refine aw_condT (by simp +decide only [aop, abuiltin, aeval, aintBin, bin_int, aload_bump, SS, reduceIte, reduceCtorEq]; first | done | exact rfl) ?_) | (refine aw_condF (by simp +decide only [aop, abuiltin, aeval, aintBin, bin_int, aload_bump, SS, reduceIte, reduceCtorEq]; first | done | exact rfl) ?_))
    refine AW.mono (AW.wf (aw_rounds_wf (fun m fr' s => Ext st s ∧ fr' 0 = .ptr p 0 ∧ fr' 1 = cv ∧ fr' 6 = .pl (.slice none 0 0)) (Q := fun e fr' s => e = .exit 0 ∧ Ext st s ∧ fr' 0 = .ptr p 0 ∧ fr' 6 = .pl (.slice none 0 0)) ?_ 0 _ _ (by repeat (first | assumption | (refine WF.bump ?_ _))) ?_) (by repeat (first | assumption | (refine WF.bump ?_ _)))) ?_
    · rintro m fr' s hws ⟨hE, f0, f1, f6⟩
      obtain ⟨l0, l1, l2, l3, l4, l5, l6, l7, l8⟩ := (b1.up hE).lds
      by_cases h0 : 0 < c.length
      · have d1 : decide ((c.length : Int) > 0) = true := decide_eq_true (by omega)
        repeat (first | (refine aw_seq ?_) | (refine aw_reg0 (by simp only [SZ, Nat.reduceAdd]; exact rfl) ?_) | (refine aw_reg (by decide +kernel) (by simp only [SZ, Nat.reduceAdd]; exact rfl) ?_) | (refine aw_regS (by decide +kernel) (by simp only [SZ, Nat.reduceAdd]; exact rfl) ?_) | (refine arl_nil ?_) | (refine aw_skip ?_) | (refine aw_block ?_) | (refine aw_exit ?_) | (refine aw_ret ?_) | (refine arl_cons rfl rfl (by simp +decide only [aop, abuiltin, aeval, aintBin, bin_int, aload_bump, SS, reduceIte, reduceCtorEq, f0, f1, hcl, d1, fp5, fs3, l7, q1]; exact rfl) (by first | rfl | with_reducible assumption) rfl ?_) | (refine arl_none rfl rfl (by simp +decide only [aop, abuiltin, aeval, aintBin, bin_int, aload_bump, SS, reduceIte, reduceCtorEq, f0, f1, hcl, d1, fp5, fs3, l7, q1]; exact rfl) rfl rfl ?_) | (refine arl_off rfl rfl ?_) | (refine aw_condT (by simp +decide only [aop, abuiltin, aeval, aintBin, bin_int, aload_bump, SS, reduceIte, reduceCtorEq, f0, f1, hcl, d1, fp5, fs3, l7, q1]; first | done | exact rfl) ?_) | (refine aw_condF (by simp +decide only [aop, abuiltin, aeval, aintBin, bin_int, aload_bump, SS, reduceIte, reduceCtorEq, f0, f1, hcl, d1, fp5, fs3, l7, q1]; first | done | exact rfl) ?_))
        exact ⟨rfl, hE.trans (by repeat (first | exact Keeps.refl _ _ | (refine Keeps.bumpR ?_ _))), f0, f6⟩
      · have d1 : decide ((c.length : Int) > 0) = false := decide_eq_false (by omega)
        repeat (first | (refine aw_seq ?_) | (refine aw_reg0 (by simp only [SZ, Nat.reduceAdd]; exact rfl) ?_) | (refine aw_reg (by decide +kernel) (by simp only [SZ, Nat.reduceAdd]; exact rfl) ?_) | (refine aw_regS (by decide +kernel) (by simp only [SZ, Nat.reduceAdd]; exact rfl) ?_) | (refine arl_nil ?_) | (refine aw_skip ?_) | (refine aw_block ?_) | (refine aw_exit ?_) | (refine aw_ret ?_) | (refine arl_cons rfl rfl (by simp +decide only [aop, abuiltin, aeval, aintBin, bin_int, aload_bump, SS, reduceIte, reduceCtorEq, f0, f1, hcl, d1]; exact rfl) (by first | rfl | with_reducible assumption) rfl ?_) | (refine arl_none rfl rfl (by simp +decide only [aop, abuiltin, aeval, aintBin, bin_int, aload_bump, SS, reduceIte, reduceCtorEq, f0, f1, hcl, d1]; exact rfl) rfl rfl ?_) | (refine arl_off rfl rfl ?_) | (refine aw_condT (by simp +decide only [aop, abuiltin, aeval, aintBin, bin_int, aload_bump, SS, reduceIte, reduceCtorEq, f0, f1, hcl, d1]; first | done | exact rfl) ?_) | (refine aw_condF (by simp +decide only [aop, abuiltin, aeval, aintBin, bin_int, aload_bump, SS, reduceIte, reduceCtorEq, f0, f1, hcl, d1]; first | done | exact rfl) ?_))
        exact ⟨rfl, hE.trans (by repeat (first | exact Keeps.refl _ _ | (refine Keeps.bumpR ?_ _))), f0, f6⟩
    · exact ⟨(by repeat (first | exact Keeps.refl _ _ | (refine Keeps.bumpR ?_ _))), rfl, rfl, rfl⟩
    rintro e fr1 s1 ⟨hw1, hn1, rfl, hE1, f0, f6⟩
    obtain ⟨l0, l1, l2, l3, l4, l5, l6, l7, l8⟩ := (b1.up hE1).lds
    repeat (first | (refine aw_seq ?_) | (refine aw_reg0 (by simp only [SZ, Nat.reduceAdd]; exact rfl) ?_) | (refine aw_reg (by decide +kernel) (by simp only [SZ, Nat.reduceAdd]; exact rfl) ?_) | (refine aw_regS (by decide +kernel) (by simp only [SZ, Nat.reduceAdd]; exact rfl) ?_) | (refine arl_nil ?_) | (refine aw_skip ?_) | (refine aw_block ?_) | (refine aw_exit ?_) | (refine aw_ret ?_) | (refine arl_cons rfl rfl (by simp +decide only [aop, abuiltin, aeval, aintBin, bin_int, aload_bump, SS, reduceIte, reduceCtorEq, f0, f6, fp5, fs3, l7]; exact rfl) (by first | rfl | with_reducible assumption) rfl ?_) | (refine arl_none rfl rfl (by simp +decide only [aop, abuiltin, aeval, aintBin, bin_int, aload_bump, SS, reduceIte, reduceCtorEq, f0, f6, fp5, fs3, l7]; exact rfl) rfl rfl ?_) | (refine arl_off rfl rfl ?_) | (refine aw_condT (by simp +decide only [aop, abuiltin, aeval, aintBin, bin_int, aload_bump, SS, reduceIte, reduceCtorEq, f0, f6, fp5, fs3, l7]; first | done | exact rfl) ?_) | (refine aw_condF (by simp +decide only [aop, abuiltin, aeval, aintBin, bin_int, aload_bump, SS, reduceIte, reduceCtorEq, f0, f6, fp5, fs3, l7]; first | done | exact rfl) ?_))
    refine ⟨.inr rfl, _, rfl, Keeps.mono (G := fun _ => False) (hE1.trans (by repeat (first | exact Keeps.refl _ _ | (refine Keeps.bumpR ?_ _)))) (fun _ h => h.elim), AV.pl (.slice none 0 0), fun _ => False, KH, KB, fun _ _ => False, ?_, ?_, ?_, ?_, ?_⟩
    · unfold fdq; rw [if_neg he]; rfl
    · rfl
    · unfold fdq; rw [if_neg he]; exact OwX.nil
    · exact ⟨fun g hg => .inl hg, fun g hg => .inl hg, fun g hg => hg.elim, fun _ g hg => hg.elim, fun _ _ g hg => hg.elim, fun _ g hg => hg.elim, fun g hg => hg.elim⟩
    · unfold fdq fda; rw [if_neg he, if_neg he]; simpa using h.up (hE1.trans (show Ext s1 _ from (by repeat (first | exact Keeps.refl _ _ | (refine Keeps.bumpR ?_ _)))))
end Go.Proofs.Ytoccmjhgmoandaa.Ra
