/- press: rows that are the rest of one's own; the flush. -/
import Derived.Test.YthjfncppiffnmaaDoorWe
import Derived.Test.YthjfncppiffnmaaDoorTk
namespace Go.Proofs.YthjfncppiffnmaaDoor.Ra
open Go Go.RowKit Pn
set_option linter.unusedVariables false
set_option linter.unusedSimpArgs false
set_option maxRecDepth 10000
/-- The end of a row of one's own. -/
def OwC (st : St) (K : Nat → Prop) (v : AV) (xs : List Int) : Prop :=
  (xs = [] ∧ v = .pl (.slice none 0 0)) ∨ ∃ i g off cs, v = .sl i off xs.length 1 ∧ st.get i = some ⟨cs, 5, true, g⟩ ∧ K g ∧ cs.length = off + xs.length ∧ cs.drop off = xs.map u8
theorem OwB.end {st : St} {K : Nat → Prop} {v : AV} {xs : List Int} (h : OwB st K v xs) : OwC st K v xs := by
  rcases h with h | ⟨i, g, h1, h2, h3⟩
  · exact .inl h
  · exact .inr ⟨i, g, 0, xs.map u8, h1, h2, h3, by simp, by simp⟩
theorem OwC.rd {st : St} {K : Nat → Prop} {v : AV} {xs : List Int} (h : OwC st K v xs) : RdB st K v xs := by
  rcases h with ⟨h1, h2⟩ | ⟨i, g, off, cs, h1, h2, h3, h4, h5⟩
  · exact .inl ⟨h1, .inl ⟨_, _, h2⟩⟩
  · refine .inr ⟨i, off, true, _, h1, h2, h3, by simp; omega, fun j x hx => ?_⟩
    rw [← List.getElem?_drop, h5, List.getElem?_map, hx]
    rfl
theorem OwC.solid {st : St} {K : Nat → Prop} {v : AV} {xs : List Int} (h : OwC st K v xs) : v.solid = true := h.rd.solid
theorem OwC.keep {st st' : St} {K G : Nat → Prop} {v : AV} {xs : List Int} (h : OwC st K v xs) (hk : Keeps G st st') (hd : ∀ g, K g → ¬ G g) : OwC st' K v xs := by
  rcases h with h | ⟨i, g, off, cs, h1, h2, h3, h4⟩
  · exact .inl h
  · exact .inr ⟨i, g, off, cs, h1, hk.get i _ h2 (hd _ h3), h3, h4⟩
theorem OwC.up {st st' : St} {K : Nat → Prop} {v : AV} {xs : List Int} (h : OwC st K v xs) (hk : Ext st st') : OwC st' K v xs := h.keep hk (fun _ _ h => h)
theorem OwC.mono {st : St} {K K' : Nat → Prop} {v : AV} {xs : List Int} (h : OwC st K v xs) (hk : ∀ g, K g → K' g) : OwC st K' v xs := by
  rcases h with h | ⟨i, g, off, cs, h1, h2, h3, h4⟩
  · exact .inl h
  · exact .inr ⟨i, g, off, cs, h1, h2, hk _ h3, h4⟩
theorem OwC.tail {st : St} {K : Nat → Prop} {v : AV} {xs : List Int} (h : OwC st K v xs) (n : Nat) (hn : n ≤ xs.length) : ∃ v', aslice Tryd.prog 22 v (some (i64 n)) none = some v' ∧ v'.solid = true ∧ OwC st K v' (xs.drop n) := by
  rcases h with ⟨h1, h2⟩ | ⟨i, g, off, cs, h1, h2, h3, h4, h5⟩
  · subst h1
    simp only [List.length_nil] at hn
    obtain rfl : n = 0 := by omega
    subst h2
    exact ⟨_, by simp only [aslice, uB, sz5, ahigh, alow]; rfl, rfl, .inl ⟨rfl, rfl⟩⟩
  · subst h1
    refine ⟨.sl i (off + n) (xs.length - n) 1, ?_, rfl, .inr ⟨i, g, off + n, cs, by rw [List.length_drop], h2, h3, by rw [List.length_drop]; omega, by rw [← List.drop_drop, h5, List.map_drop]⟩⟩
    simp only [aslice, uB, sz5, ahigh, alow]
    rw [if_pos ⟨by omega, by omega⟩]
    simp
/-- 'append(v, x...)', v the end of a row of one's own. -/
theorem app_end {st : St} {K K' : Nat → Prop} {v x : AV} {xs ns : List Int} {id : Nat} (hid : K id) (hv : OwC st K v xs) (hx : RdB st K' x ns) (hfr : st.get id = none) (hb : xs.length + ns.length ≤ 140737488355328) :
    ∃ y s, aappend Tryd.prog st id 22 v x = some (y, s) ∧ y.solid = true ∧ s.n = st.n ∧ OwB s K y (xs ++ ns) ∧ Keeps K st s := by
  rcases hv with ⟨h1, h2⟩ | ⟨i, g, off, cs, h1, h2, h3, h4, h5⟩
  · obtain ⟨y, s, a1, a2, a3, a4, _, a5⟩ := app_own (st := st) (K := K) hid (.inl ⟨h1, h2⟩) hx hb
    rcases (app_any (st := st) (K := K) id (.inl ⟨h1, h2⟩) hx hb) with ⟨y', s', b1, b2, b3, b4⟩
    rw [a1] at b1
    cases b1
    refine ⟨y, s, a1, a2, a3, a4, ?_⟩
    rcases b4 with ⟨_, _, ⟨_, _, rfl⟩ | ⟨_, rfl⟩⟩ | ⟨i, g, e, _⟩
    · exact Keeps.refl _ _
    · exact Keeps.putF (Keeps.refl _ _) hfr
    · rw [h2] at e; cases e
  · by_cases h0 : off = 0
    · subst h0
      rw [List.drop_zero] at h5
      subst h5
      have hB : OwB st K v xs := .inr ⟨i, g, h1, h2, h3⟩
      obtain ⟨y, s, a1, a2, a3, a4, _, a5⟩ := app_own (st := st) (K := K) hid hB hx hb
      obtain ⟨y', s', b1, b2, b3, b4⟩ := app_any (st := st) (K := K) id hB hx hb
      rw [a1] at b1
      cases b1
      refine ⟨y, s, a1, a2, a3, a4, ?_⟩
      rcases b4 with ⟨_, _, ⟨_, _, rfl⟩ | ⟨_, rfl⟩⟩ | ⟨i', g', e, e2, e3, _, rfl⟩
      · exact Keeps.refl _ _
      · exact Keeps.putF (Keeps.refl _ _) hfr
      · refine ⟨Nat.le_refl _, fun j oj hj hg => ?_⟩
        have hne : j ≠ id := fun e => by rw [e, hfr] at hj; cases hj
        have hng : oj.grp ≠ g' := fun e => hg (by rw [e]; exact e3)
        simp [St.put, hne, St.touch, hj, hng]
    · obtain ⟨i5, hi, hz⟩ := Option.map_eq_some_iff.1 t5
      simp only [Prod.mk.injEq] at hz
      obtain ⟨z1, z2, z3⟩ := hz
      have hsrc : asrc Tryd.prog st i5.size x = some (ns.map u8, ns.length) := by
        rw [z2]
        rcases hx with ⟨rfl, ⟨q, c, rfl⟩ | ⟨i, off, es, rfl⟩⟩ | ⟨i, off, es, o, rfl, h2, h3, h4, h5⟩
        · rfl
        · rfl
        · simp only [asrc]
          by_cases h0 : ns.length = 0
          · have : ns = [] := List.eq_nil_of_length_eq_zero h0
            subst this
            rfl
          · rw [if_neg h0, h2]
            simp only [Nat.mul_one]
            rw [if_pos h4]
            congr 2
            apply List.ext_getElem?
            intro j
            by_cases hj : j < ns.length
            · rw [List.getElem?_take, if_pos hj, List.getElem?_drop, h5 j ns[j] (List.getElem?_eq_getElem hj), List.getElem?_map, List.getElem?_eq_getElem hj]
              rfl
            · rw [List.getElem?_eq_none (by simp; omega), List.getElem?_eq_none (by simp; omega)]
      have hone := ones ns
      subst h1
      refine ⟨.sl id 0 (xs.length + ns.length) 1, (st.kill g).put id ⟨(xs ++ ns).map u8, 5, true, id⟩, ?_, rfl, rfl, .inr ⟨id, id, by rw [List.length_append], get_put _ _, hid⟩, ⟨Nat.le_refl _, fun j oj hj hg => ?_⟩⟩
      · simp only [aappend, uB, hi, hsrc, h2]
        have hm : xs.length + ns.length ≤ maxLen := by simp only [maxLen]; omega
        rw [if_pos ⟨by first | trivial | rfl, by first | trivial | rfl, by omega, by rw [z1, z2]; rfl, by rw [z2]; omega, by rw [z3]; omega, hm, hone⟩, z2, if_neg h0, h5]
        simp only [List.map_append]
      · have hne : j ≠ id := fun e => by rw [e, hfr] at hj; cases hj
        have hng : oj.grp ≠ g := fun e => hg (by rw [e]; exact h3)
        simp [St.put, hne, St.kill, hj, hng]
theorem arl_appC {sd : Bool} {ops : Array Oper} {n0 i : Nat} {o : Oper} {l : List Oper} {fr : AFr} {st : St} {Q : AFr → St → Prop} {t : Nat} {a b : Operand} {K K' : Nat → Prop} {xs ns : List Int} (hd : o.dst = some t) (hw : awanted ops fr o = true) (ho : o.op = .call ⟨.builtin .append, #[a, b], #[22, 22]⟩)
    (hv : OwC st K (aeval fr a) xs) (hx : RdB st K' (aeval fr b) ns) (hid : K (n0 + i)) (hfr : st.get (n0 + i) = none) (hb : xs.length + ns.length ≤ 140737488355328)
    (hk : ∀ y s, OwB s K y (xs ++ ns) → s.n = st.n → Keeps K st s → (WF st → n0 + i < st.n → WF s) → (∀ d, d < st.n → d ≠ n0 + i → st.get d = none → s.get d = none) → ARL Tryd.prog sd ops n0 (i + 1) l (aput fr (some t) y) s Q) : ARL Tryd.prog sd ops n0 i (o :: l) fr st Q := by
  obtain ⟨y, s, h1, h2, h3, h4, h5⟩ := app_end hid hv hx hfr hb
  refine arl_cons hd hw ?_ h2 (by rw [ho]; rfl) (hk y s h4 h3 h5 (fun h7 h8 => aappend_wf h1 h7 h8) (fun d hd hne hnone => (aappend_wd h1 ⟨hd, hnone⟩ (Ne.symm hne)).2))
  have e : aop Tryd.prog (acall Tryd.prog 0) (n0 + i) o fr st = aappend Tryd.prog st (n0 + i) 22 (aeval fr a) (aeval fr b) := by
    simp only [aop, ho, abuiltin, List.map_cons, List.map_nil]
    rfl
  rw [e, h1]
/-- The tokens so far and the bytes that are no token yet, in two variables. -/
structure Fl (st : St) (lo rp tp : Nat) (KR KT : Nat → Prop) (L : Nat → Nat → Prop) (acc : List Tok) (run : List Int) : Prop where
  r : ∃ v, st.get rp = some ⟨[v], 22, true, rp⟩ ∧ OwC st KR v run
  t : ∃ v, st.get tp = some ⟨[v], 28, true, tp⟩ ∧ OwX oTokK st KT L TK v acc
  ne : rp ≠ tp
  rl : rp < lo
  tl : tp < lo
  ln : lo ≤ st.n
  hr : ∀ g, KR g → lo ≤ g ∧ g < st.n
  ht : ∀ g, KT g → lo ≤ g ∧ g < st.n
  hl : ∀ j g, L j g → lo ≤ g ∧ g < st.n
  drt : ∀ g, KR g → ¬ KT g
  drl : ∀ j g, KR g → ¬ L j g
  dl : ∀ i j g, L i g → L j g → i = j
theorem Fl.keep {st st' : St} {G : Nat → Prop} {lo rp tp : Nat} {KR KT : Nat → Prop} {L : Nat → Nat → Prop} {acc : List Tok} {run : List Int} (h : Fl st lo rp tp KR KT L acc run) (hk : Keeps G st st') (h1 : ¬ G rp) (h2 : ¬ G tp) (h3 : ∀ g, G g → g < lo) : Fl st' lo rp tp KR KT L acc run := by
  obtain ⟨⟨v, a1, a2⟩, ⟨w, b1, b2⟩, c1, c2, c3, c4, c5, c6, c7, c8, c9, c10⟩ := h
  have hn := hk.n
  exact ⟨⟨v, hk.get _ _ a1 h1, a2.keep hk (fun g h h' => by have := c5 g h; have := h3 g h'; omega)⟩, ⟨w, hk.get _ _ b1 h2, b2.keep hk (fun g h h' => by have := c6 g h; have := h3 g h'; omega) (fun j g h h' => by have := c7 j g h; have := h3 g h'; omega)⟩, c1, c2, c3, by omega, fun g h => by have := c5 g h; omega, fun g h => by have := c6 g h; omega, fun j g h => by have := c7 j g h; omega, c8, c9, c10⟩
theorem Fl.up {st st' : St} {lo rp tp : Nat} {KR KT : Nat → Prop} {L : Nat → Nat → Prop} {acc : List Tok} {run : List Int} (h : Fl st lo rp tp KR KT L acc run) (hk : Ext st st') : Fl st' lo rp tp KR KT L acc run := h.keep hk (fun h => h) (fun h => h) (fun _ h => h.elim)
theorem amin_nat (a b : Nat) : amin [i64 a, i64 b] = some (i64 (min a b : Nat)) := by
  simp only [amin]
  by_cases h : b < a
  · rw [if_pos (by omega), Nat.min_eq_right (by omega)]
  · rw [if_neg (by omega), Nat.min_eq_left (by omega)]
theorem uTs : Tryd.prog.underlying 28 = some (.slice TK) := Tryd.underlying28
theorem szTs : szOf Tryd.prog 28 = some 1 := by kernel_rfl
theorem OwX.cell {α : Type} {k : EK α} {st : St} {K : Nat → Prop} {L : Nat → Nat → Prop} {e : TypeId} {v : AV} {xs : List α} (h : OwX k st K L e v xs) : v.cells = [v] ∧ v.one = true := by
  rcases h with ⟨_, rfl⟩ | ⟨i, g, cs, rfl, _⟩ <;> exact ⟨rfl, rfl⟩
set_option maxHeartbeats 2000000 in
theorem flush_ok {st : St} (hw : WF st) {lo rp tp : Nat} {KR KT : Nat → Prop} {L : Nat → Nat → Prop} {acc : List Tok} {run : List Int} (h : Fl st lo rp tp KR KT L acc run) (hal : acc.length + run.length ≤ 1048576) :
    ACalls Tryd.prog 28 [.ptr rp 0, .ptr tp 0] st (fun r s => Keeps (fun g => g = rp ∨ g = tp ∨ lo ≤ g) st s ∧ r.solid = true ∧ ∃ KT' L', Fl s lo rp tp KR KT' L' (acc ++ pcs run) []) := by
  refine acalls_of Tryd.func28 rfl (by kernel_rfl) rfl ?_
  repeat (first | (refine aw_seq ?_) | (refine aw_reg0 (by simp only [SZ, Nat.reduceAdd]; exact rfl) ?_) | (refine aw_reg (by decide +kernel) (by simp only [SZ, Nat.reduceAdd]; exact rfl) ?_) | (refine aw_regS (by decide +kernel) (by simp only [SZ, Nat.reduceAdd]; exact rfl) ?_) | (refine arl_nil ?_) | (refine aw_skip ?_) | (refine aw_block ?_) | (refine aw_exit ?_) | (refine aw_ret ?_) | (refine arl_cons rfl rfl (by simp +decide only [aop, abuiltin, aeval, aintBin, bin_int, aload_bump, SS, reduceIte, reduceCtorEq]; exact rfl) (by first | rfl | with_reducible assumption) rfl ?_) | (refine arl_none rfl rfl (by simp +decide only [aop, abuiltin, aeval, aintBin, bin_int, aload_bump, SS, reduceIte, reduceCtorEq]; exact rfl) rfl rfl ?_) | (refine arl_off rfl rfl ?_) | (refine aw_condT (by simp +decide only [aop, abuiltin, aeval, aintBin, bin_int, aload_bump, SS, reduceIte, reduceCtorEq]; first | done | exact rfl) ?_) | (refine aw_condF (by simp +decide only [aop, abuiltin, aeval, aintBin, bin_int, aload_bump, SS, reduceIte, reduceCtorEq]; first | done | exact rfl) ?_))
  refine aw_rounds_wf (fun m fr s => Keeps (fun g => g = rp ∨ g = tp ∨ lo ≤ g) st s ∧ ∃ (ac : List Tok) (rn : List Int) (KT' : Nat → Prop) (L' : Nat → Nat → Prop), m = rn.length ∧ ac.length + rn.length ≤ acc.length + run.length ∧ fr 0 = .ptr rp 0 ∧ fr 1 = .ptr tp 0 ∧ acc ++ pcs run = ac ++ pcs rn ∧ Fl s lo rp tp KR KT' L' ac rn) ?_ run.length _ _ (by repeat (first | assumption | (refine WF.bump ?_ _))) ?_
  · rintro m fr s hws ⟨hE, ac, rn, KT', L', rfl, hall, f0, f1, he, hF⟩
    have hEn := hE.n
    obtain ⟨⟨rv, r1, r2⟩, ⟨tv, t1, t2⟩, c1, c2, c3, c4, c5, c6, c7, c8, c9, c10⟩ := hF
    have hrs := r2.solid
    have hts := t2.solid
    have hln := r2.rd.len
    have hlr : aload Tryd.prog s 22 (.ptr rp 0) = some rv := load_at uB rfl szB r1 rfl
    have hlt : aload Tryd.prog s 28 (.ptr tp 0) = some tv := load_at uTs rfl szTs t1 rfl
    by_cases h0 : 0 < rn.length
    · have d1 : decide ((rn.length : Int) > 0) = true := decide_eq_true (by omega)
      have hmin : amin [i64 (rn.length : Int), i64 128] = some (i64 (min rn.length 128 : Nat)) := amin_nat rn.length 128
      obtain ⟨n, hn⟩ : ∃ n, min rn.length 128 = n := ⟨_, rfl⟩
      rw [hn] at hmin
      have hnl : n ≤ rn.length ∧ 0 < n ∧ (n = 128 ∨ n = rn.length) := by omega
      obtain ⟨u, hcut, hus, hU⟩ := r2.rd.cuts none (some (i64 n)) 0 n (.inr ⟨rfl, rfl⟩) (.inl rfl) (by omega) (by omega)
      rw [List.drop_zero, Nat.sub_zero] at hU
      obtain ⟨w, hcut2, hws2, hW⟩ := r2.tail n hnl.1
      have hne : rn ≠ [] := fun e => by rw [e] at h0; simp at h0
      have hpc : pcs rn = (rn.take n, 0, 0) :: pcs (rn.drop n) := by
        rw [pcs_step rn hne]
        rcases hnl.2.2 with h | h
        · rw [h]
        · have : rn.length ≤ 128 := by omega
          rw [List.take_of_length_le this, List.drop_of_length_le this, h, List.take_length, List.drop_length]
      repeat (first | (refine aw_seq ?_) | (refine aw_reg0 (by simp only [SZ, Nat.reduceAdd]; exact rfl) ?_) | (refine aw_reg (by decide +kernel) (by simp only [SZ, Nat.reduceAdd]; exact rfl) ?_) | (refine aw_regS (by decide +kernel) (by simp only [SZ, Nat.reduceAdd]; exact rfl) ?_) | (refine arl_nil ?_) | (refine aw_skip ?_) | (refine aw_block ?_) | (refine aw_exit ?_) | (refine aw_ret ?_) | (refine arl_cons rfl rfl (by simp +decide only [aop, abuiltin, aeval, aintBin, bin_int, aload_bump, SS, reduceIte, reduceCtorEq, f0, f1, hlr, hln, d1, hmin, hlt, hcut]; exact rfl) (by first | rfl | with_reducible assumption) rfl ?_) | (refine arl_none rfl rfl (by simp +decide only [aop, abuiltin, aeval, aintBin, bin_int, aload_bump, SS, reduceIte, reduceCtorEq, f0, f1, hlr, hln, d1, hmin, hlt, hcut]; exact rfl) rfl rfl ?_) | (refine arl_off rfl rfl ?_) | (refine aw_condT (by simp +decide only [aop, abuiltin, aeval, aintBin, bin_int, aload_bump, SS, reduceIte, reduceCtorEq, f0, f1, hlr, hln, d1, hmin, hlt, hcut]; first | done | exact rfl) ?_) | (refine aw_condF (by simp +decide only [aop, abuiltin, aeval, aintBin, bin_int, aload_bump, SS, reduceIte, reduceCtorEq, f0, f1, hlr, hln, d1, hmin, hlt, hcut]; first | done | exact rfl) ?_))
      obtain ⟨g1, hg1⟩ : ∃ g1, g1 = s.n + 11 := ⟨_, rfl⟩
      obtain ⟨g2, hg2⟩ : ∃ g2, g2 = s.n + 14 := ⟨_, rfl⟩
      refine arl_appC (K := fun g => g = g1) (K' := KR) (xs := []) (ns := rn.take n) rfl rfl rfl (.inl ⟨rfl, rfl⟩) (hU.up (by repeat (first | exact Keeps.refl _ _ | (refine Keeps.bumpR ?_ _)))) (by simp only [n_bump]; omega) (fresh hws (by first | omega | (simp only [n_bump, n_put]; omega) | (simp only [n_bump, n_put] at *; omega))) (by simp; omega) ?_
      intro y s1 hB hn1 hK1 hwf1 hD1
      rw [List.nil_append] at hB
      have hw1 := hwf1 (by repeat (first | assumption | (refine WF.bump ?_ _) | (refine WF.put ?_ (by simp only [n_bump, n_put, n_touch, n_kill] at *; omega) (by simp only [n_bump, n_put, n_touch, n_kill] at *; omega)))) (by simp only [n_bump, n_put, n_touch, n_kill] at *; omega)
      have hys := hB.solid
      have hbl := bldL hB.rd
      simp only [n_bump] at hn1
      have hfr1 : ∀ d, s.n + 7 ≤ d → d < s.n + 16 → d ≠ g1 → s1.get d = none := fun d h1 h2 h3 => hD1 d (by simp only [n_bump]; omega) (by simp only [n_bump]; omega) (fresh hws (by omega))
      replace hK1 : Keeps (fun g => g = g1) s s1 := Keeps.trans (Keeps.mono (G := fun _ => False) (show Ext s _ from (by repeat (first | exact Keeps.refl _ _ | (refine Keeps.bumpR ?_ _)))) (fun _ h => h.elim)) hK1
      repeat (first | (refine aw_seq ?_) | (refine aw_reg0 (by simp only [SZ, Nat.reduceAdd]; exact rfl) ?_) | (refine aw_reg (by decide +kernel) (by simp only [SZ, Nat.reduceAdd]; exact rfl) ?_) | (refine aw_regS (by decide +kernel) (by simp only [SZ, Nat.reduceAdd]; exact rfl) ?_) | (refine arl_nil ?_) | (refine aw_skip ?_) | (refine aw_block ?_) | (refine aw_exit ?_) | (refine aw_ret ?_) | (refine arl_cons rfl rfl (by simp +decide only [aop, abuiltin, aeval, aintBin, bin_int, aload_bump, SS, reduceIte, reduceCtorEq, hbl, litT1]; exact rfl) (by first | rfl | with_reducible assumption) rfl ?_) | (refine arl_none rfl rfl (by simp +decide only [aop, abuiltin, aeval, aintBin, bin_int, aload_bump, SS, reduceIte, reduceCtorEq, hbl, litT1]; exact rfl) rfl rfl ?_) | (refine arl_off rfl rfl ?_) | (refine aw_condT (by simp +decide only [aop, abuiltin, aeval, aintBin, bin_int, aload_bump, SS, reduceIte, reduceCtorEq, hbl, litT1]; first | done | exact rfl) ?_) | (refine aw_condF (by simp +decide only [aop, abuiltin, aeval, aintBin, bin_int, aload_bump, SS, reduceIte, reduceCtorEq, hbl, litT1]; first | done | exact rfl) ?_))
      have hup : ∀ o : AObj, Ext s1 (s1.put (((s.bump 3).bump 4).n + (0 + 1 + 1 + 1 + 1 + 1 + 1)) o) := fun o => Keeps.putF (Keeps.refl _ _) (hfr1 _ (by simp only [n_bump]; omega) (by simp only [n_bump]; omega) (by simp only [n_bump]; omega))
      refine arl_appX (k := oTokK) (K0 := KT') (L0 := L') (Kx := fun _ => True) (Kn := fun g => g = g1) (K := fun g => KT' g ∨ g = g2) (L := fun j g => (j < ac.length ∧ L' j g) ∨ (j = ac.length ∧ g = g1)) (xs := ac) (ns := [(rn.take n, 0, 0)]) TTK rfl rfl rfl ((t2.keep hK1 (fun g h h' => by have := c6 g h; omega) (fun j g h h' => by have := c7 j g h; omega)).up (hup _)) (RdL.one ⟨y, rfl, hB.up (hup _)⟩ rfl _ trivial _) (fun g h h' => by have := c6 g h; omega) ⟨by simp only [n_bump]; omega, fun h => .inr (by simp only [n_bump]; omega)⟩ (fun _ h => .inl h) (fun j g h1 h2 => .inl ⟨h1, h2⟩) (fun j g h1 h2 h3 => .inr ⟨by simp only [List.length_singleton] at h2; omega, h3⟩) ?hfr (by simp; omega) (by simp; omega) ?_
      case hfr =>
        rw [get_put_ne _ (by simp only [n_bump]; omega)]
        exact hfr1 _ (by simp only [n_bump]; omega) (by simp only [n_bump]; omega) (by simp only [n_bump]; omega)
      intro z s2 hO2 hn2 hK2 hwf2
      have hzs := hO2.solid
      have hzc := hO2.cell
      have hw2 := hwf2 (WF.put hw1 (by simp only [n_bump]; omega) (by simp only [n_bump]; omega)) (by simp only [n_put, n_bump]; omega)
      replace hK2 : Keeps KT' s1 s2 := Keeps.trans (Keeps.mono (G := fun _ => False) (hup _) (fun _ h => h.elim)) hK2
      have hn2' : s2.n = s.n + 16 := by rw [hn2]; simp only [n_put]; omega
      have t1' := hK2.get _ _ (hK1.get _ _ t1 (by simp only; omega)) (fun h => by have := c6 tp h; omega)
      have r1' := hK2.get _ _ (hK1.get _ _ r1 (by simp only; omega)) (fun h => by have := c6 rp h; omega)
      have W2 := (hW.keep hK1 (fun g h h' => by have := c5 g h; omega)).keep hK2 (fun g h h' => c8 g h h')
      refine arl_storeX (g := tp) (off := 0) rfl rfl rfl f1 rfl t1' szTs hzc.1 hzc.2 hzs (by simp) ?_
      intro s3 hn3 hwf3 hK3 hg3 hd3
      have hw3 := hwf3 hw2
      have r1'' := hK3.get _ _ r1' c1
      have hlr3 : aload Tryd.prog s3 22 (.ptr rp 0) = some rv := load_at uB rfl szB r1'' rfl
      have W3 := W2.keep hK3 (fun g h h' => by have := c5 g h; omega)
      have O3 := hO2.keep hK3 (fun g h h' => by rcases h with h | h; have := c6 g h; omega; omega) (fun j g h h' => by rcases h with ⟨_, h⟩ | ⟨_, h⟩; have := c7 j g h; omega; omega)
      repeat (first | (refine aw_seq ?_) | (refine aw_reg0 (by simp only [SZ, Nat.reduceAdd]; exact rfl) ?_) | (refine aw_reg (by decide +kernel) (by simp only [SZ, Nat.reduceAdd]; exact rfl) ?_) | (refine aw_regS (by decide +kernel) (by simp only [SZ, Nat.reduceAdd]; exact rfl) ?_) | (refine arl_nil ?_) | (refine aw_skip ?_) | (refine aw_block ?_) | (refine aw_exit ?_) | (refine aw_ret ?_) | (refine arl_cons rfl rfl (by simp +decide only [aop, abuiltin, aeval, aintBin, bin_int, aload_bump, SS, reduceIte, reduceCtorEq, f0, hlr3, hcut2]; exact rfl) (by first | rfl | with_reducible assumption) rfl ?_) | (refine arl_none rfl rfl (by simp +decide only [aop, abuiltin, aeval, aintBin, bin_int, aload_bump, SS, reduceIte, reduceCtorEq, f0, hlr3, hcut2]; exact rfl) rfl rfl ?_) | (refine arl_off rfl rfl ?_) | (refine aw_condT (by simp +decide only [aop, abuiltin, aeval, aintBin, bin_int, aload_bump, SS, reduceIte, reduceCtorEq, f0, hlr3, hcut2]; first | done | exact rfl) ?_) | (refine aw_condF (by simp +decide only [aop, abuiltin, aeval, aintBin, bin_int, aload_bump, SS, reduceIte, reduceCtorEq, f0, hlr3, hcut2]; first | done | exact rfl) ?_))
      refine arl_storeX (g := rp) (off := 0) rfl rfl rfl f0 rfl r1'' szB W3.rd.cell.1 W3.rd.cell.2 hws2 (by simp) ?_
      intro s4 hn4 hwf4 hK4 hg4 hd4
      have hw4 := hwf4 (by repeat (first | assumption | (refine WF.bump ?_ _)))
      have hn4' : s4.n = s.n + 20 := by rw [hn4]; simp only [n_bump]; omega
      replace hK4 : Keeps (fun g => g = rp) s3 s4 := Keeps.trans (Keeps.mono (G := fun _ => False) (show Ext s3 _ from (by repeat (first | exact Keeps.refl _ _ | (refine Keeps.bumpR ?_ _)))) (fun _ h => h.elim)) hK4
      repeat (first | (refine aw_seq ?_) | (refine aw_reg0 (by simp only [SZ, Nat.reduceAdd]; exact rfl) ?_) | (refine aw_reg (by decide +kernel) (by simp only [SZ, Nat.reduceAdd]; exact rfl) ?_) | (refine aw_regS (by decide +kernel) (by simp only [SZ, Nat.reduceAdd]; exact rfl) ?_) | (refine arl_nil ?_) | (refine aw_skip ?_) | (refine aw_block ?_) | (refine aw_exit ?_) | (refine aw_ret ?_) | (refine arl_cons rfl rfl (by simp +decide only [aop, abuiltin, aeval, aintBin, bin_int, aload_bump, SS, reduceIte, reduceCtorEq]; exact rfl) (by first | rfl | with_reducible assumption) rfl ?_) | (refine arl_none rfl rfl (by simp +decide only [aop, abuiltin, aeval, aintBin, bin_int, aload_bump, SS, reduceIte, reduceCtorEq]; exact rfl) rfl rfl ?_) | (refine arl_off rfl rfl ?_) | (refine aw_condT (by simp +decide only [aop, abuiltin, aeval, aintBin, bin_int, aload_bump, SS, reduceIte, reduceCtorEq]; first | done | exact rfl) ?_) | (refine aw_condF (by simp +decide only [aop, abuiltin, aeval, aintBin, bin_int, aload_bump, SS, reduceIte, reduceCtorEq]; first | done | exact rfl) ?_))
      have hA : Keeps (fun g => g = rp ∨ g = tp ∨ lo ≤ g) s s4 := (hK1.mono (fun g h => .inr (.inr (by omega)))).trans ((hK2.mono (fun g h => .inr (.inr (c6 g h).1))).trans ((hK3.mono (fun g h => .inr (.inl h))).trans (hK4.mono (fun g h => .inl h))))
      have hF4 : Fl s4 lo rp tp KR (fun g => KT' g ∨ g = g2) (fun j g => (j < ac.length ∧ L' j g) ∨ (j = ac.length ∧ g = g1)) (ac ++ [(rn.take n, 0, 0)]) (rn.drop n) := by
        refine ⟨⟨w, hg4, W3.keep hK4 (fun g h h' => by have := c5 g h; omega)⟩, ⟨z, hK4.get _ _ hg3 (fun h => c1 h.symm), O3.keep hK4 (fun g h h' => by rcases h with h | h; have := c6 g h; omega; omega) (fun j g h h' => by rcases h with ⟨_, h⟩ | ⟨_, h⟩; have := c7 j g h; omega; omega)⟩, c1, c2, c3, by omega, fun g h => by have := c5 g h; omega, ?_, ?_, ?_, ?_, ?_⟩
        · intro g h
          rcases h with h | h
          · have := c6 g h; omega
          · omega
        · intro j g h
          rcases h with ⟨_, h⟩ | ⟨_, h⟩
          · have := c7 j g h; omega
          · omega
        · intro g h h'
          rcases h' with h' | h'
          · exact c8 g h h'
          · have := c5 g h; omega
        · intro j g h h'
          rcases h' with ⟨_, h'⟩ | ⟨_, h'⟩
          · exact c9 j g h h'
          · have := c5 g h; omega
        · intro i j g h h'
          rcases h with ⟨_, h⟩ | ⟨e1, h⟩
          · rcases h' with ⟨_, h'⟩ | ⟨_, h'⟩
            · exact c10 i j g h h'
            · have := c7 i g h; omega
          · rcases h' with ⟨_, h'⟩ | ⟨e2, h'⟩
            · have := c7 j g h'; omega
            · omega
      refine ⟨(rn.drop n).length, by rw [List.length_drop]; omega, hE.trans hA, ac ++ [(rn.take n, 0, 0)], rn.drop n, _, _, rfl, ?_, f0, f1, ?_, hF4⟩
      · rw [List.length_append, List.length_singleton, List.length_drop]; omega
      · rw [he, hpc, List.append_assoc]; rfl
    · have d1 : decide ((rn.length : Int) > 0) = false := decide_eq_false (by omega)
      obtain rfl : rn = [] := List.eq_nil_of_length_eq_zero (by omega)
      rw [pcs_nil, List.append_nil] at he
      repeat (first | (refine aw_seq ?_) | (refine aw_reg0 (by simp only [SZ, Nat.reduceAdd]; exact rfl) ?_) | (refine aw_reg (by decide +kernel) (by simp only [SZ, Nat.reduceAdd]; exact rfl) ?_) | (refine aw_regS (by decide +kernel) (by simp only [SZ, Nat.reduceAdd]; exact rfl) ?_) | (refine arl_nil ?_) | (refine aw_skip ?_) | (refine aw_block ?_) | (refine aw_exit ?_) | (refine aw_ret ?_) | (refine arl_cons rfl rfl (by simp +decide only [aop, abuiltin, aeval, aintBin, bin_int, aload_bump, SS, reduceIte, reduceCtorEq, f0, hlr, hln, d1]; exact rfl) (by first | rfl | with_reducible assumption) rfl ?_) | (refine arl_none rfl rfl (by simp +decide only [aop, abuiltin, aeval, aintBin, bin_int, aload_bump, SS, reduceIte, reduceCtorEq, f0, hlr, hln, d1]; exact rfl) rfl rfl ?_) | (refine arl_off rfl rfl ?_) | (refine aw_condT (by simp +decide only [aop, abuiltin, aeval, aintBin, bin_int, aload_bump, SS, reduceIte, reduceCtorEq, f0, hlr, hln, d1]; first | done | exact rfl) ?_) | (refine aw_condF (by simp +decide only [aop, abuiltin, aeval, aintBin, bin_int, aload_bump, SS, reduceIte, reduceCtorEq, f0, hlr, hln, d1]; first | done | exact rfl) ?_))
      refine ⟨.inl rfl, _, rfl, hE.trans (Keeps.mono (G := fun _ => False) (by repeat (first | exact Keeps.refl _ _ | (refine Keeps.bumpR ?_ _))) (fun _ h => h.elim)), rfl, KT', L', ?_⟩
      rw [he]
      exact Fl.up ⟨⟨rv, r1, r2⟩, ⟨tv, t1, t2⟩, c1, c2, c3, c4, c5, c6, c7, c8, c9, c10⟩ (by repeat (first | exact Keeps.refl _ _ | (refine Keeps.bumpR ?_ _)))
  · exact ⟨Keeps.mono (G := fun _ => False) (by repeat (first | exact Keeps.refl _ _ | (refine Keeps.bumpR ?_ _))) (fun _ h => h.elim), acc, run, KT, L, rfl, Nat.le_refl _, rfl, rfl, rfl, h.up (by repeat (first | exact Keeps.refl _ _ | (refine Keeps.bumpR ?_ _)))⟩
end Go.Proofs.YthjfncppiffnmaaDoor.Ra
