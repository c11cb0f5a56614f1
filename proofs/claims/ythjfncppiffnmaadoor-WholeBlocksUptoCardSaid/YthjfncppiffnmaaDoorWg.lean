/- press.Tokens. -/
import Derived.Test.YthjfncppiffnmaaDoorWf
namespace Go.Proofs.YthjfncppiffnmaaDoor.Ra
open Go Go.RowKit Pn
set_option linter.unusedVariables false
set_option linter.unusedSimpArgs false
set_option maxRecDepth 10000
theorem bst_zero (b : List Int) (i : Nat) (d : Int) (r : Nat × Nat) (h : d ≤ 0) (p : Nat) : bst b i p d r = r := by
  cases p with
  | zero => rfl
  | succ p => rw [bst, if_neg (by omega)]
theorem grd_congr (b : List Int) (d d' : Int) (h : ∀ i, bst b i i d (0, 0) = bst b i i d' (0, 0)) : ∀ f from_ i acc, grd b d f from_ i acc = grd b d' f from_ i acc := by
  intro f
  induction f with
  | zero => intro _ _ _; rfl
  | succ f ih =>
    intro from_ i acc
    rw [grd, grd, h i, ih, ih]
theorem grd_clamp (b : List Int) (d : Int) (dn : Nat) (h : min (max d 0) 32 = (dn : Int)) (f from_ i : Nat) (acc : List Tok) : grd b (min d 32) f from_ i acc = grd b dn f from_ i acc := by
  by_cases h0 : 0 ≤ d
  · rw [show min d 32 = (dn : Int) by omega]
  · exact grd_congr b _ _ (fun i => by rw [bst_zero _ _ _ _ (by omega), bst_zero _ _ _ _ (by omega)]) f from_ i acc
theorem ti32 : (Tryd.prog.info? 21).map (fun i => (i.zero, i.size, i.bytes)) = some (some (.int .i32 0), 1, 4) := by kernel_rfl
theorem mkI (n : Nat) (h : n ≤ 1048576) : ∃ cs : List AV, cs.length = n ∧ ∀ id, amakeSlice Tryd.prog 59 id (i64 n) (i64 n) = some (.sl id 0 n 1, ⟨cs, 21, true, id⟩) := by
  obtain ⟨i, hi, hz⟩ := Option.map_eq_some_iff.1 ti32
  simp only [Prod.mk.injEq] at hz
  obtain ⟨z1, z2, z3⟩ := hz
  refine ⟨(madeCells (Value.int .i32 0).cells (n * 1)).toList.map .pl, by simp [size_madeCells], fun id => ?_⟩
  simp only [amakeSlice, ucI, hi, z1]
  rw [if_pos ⟨by omega, trivial, by omega, by rw [z3]; omega, by omega⟩, z2]
  simp
theorem bldC {v : AV} (h : v.cells = [v] ∧ v.solid = true) (hs : (∃ q n c, v = .pl (.slice q n c)) ∨ ∃ i off n es, v = .sl i off n es) (id n : Nat) : abuild Tryd.prog 62 [(0, v), (2, .sl id 0 n 1)] = some (.agg (v :: (List.replicate 4096 (i32 0) ++ [.sl id 0 n 1]))) := by
  rcases hs with ⟨q, m, c, rfl⟩ | ⟨i, off, m, es, rfl⟩ <;> kernel_rfl
theorem szC : szOf Tryd.prog 62 = some 4098 := by kernel_rfl
theorem zBs : zcells Tryd.prog 22 = some [.pl (.slice none 0 0)] := by kernel_rfl
theorem zTs : zcells Tryd.prog 28 = some [.pl (.slice none 0 0)] := by kernel_rfl
theorem Chn.new {st : St} {c g : Nat} {v : AV} {b : List Int} {bk gb : Nat} {cs : List AV} (hne : g ≠ gb) (h1 : st.get c = some ⟨v :: (List.replicate 4096 (i32 0) ++ [.sl bk 0 b.length 1]), 62, true, g⟩) (h2 : st.get bk = some ⟨cs, 21, true, gb⟩) (h3 : cs.length = b.length) : Chn st c g v b bk gb 0 :=
  ⟨hne, List.replicate 4096 (i32 0), cs, h1, List.length_replicate, fun h hh => by rw [List.getElem?_replicate, if_pos hh]; rfl, h2, h3, fun q hq => by omega⟩
theorem Fl.setRun {s s' : St} {lo rp tp : Nat} {KR KR' KT : Nat → Prop} {L : Nat → Nat → Prop} {acc : List Tok} {run run' : List Int} {v : AV} (h : Fl s lo rp tp KR KT L acc run) (hk : Keeps (fun g => KR g ∨ g = rp ∨ s.n ≤ g) s s') (hg : s'.get rp = some ⟨[v], 22, true, rp⟩) (ho : OwC s' KR' v run') (hKR : ∀ g, KR' g → KR g ∨ (s.n ≤ g ∧ g < s'.n)) : Fl s' lo rp tp KR' KT L acc run' := by
  obtain ⟨⟨rv, r1, r2⟩, ⟨tv, t1, t2⟩, c1, c2, c3, c4, c5, c6, c7, c8, c9, c10⟩ := h
  have hn := hk.n
  refine ⟨⟨v, hg, ho⟩, ⟨tv, hk.get _ _ t1 ?_, t2.keep hk ?_ ?_⟩, c1, c2, c3, by omega, ?_, ?_, ?_, ?_, ?_, c10⟩
  · rintro (h | h | h)
    · have := c5 tp h; omega
    · exact c1 h.symm
    · simp only at h; omega
  · rintro g h (h' | h' | h')
    · exact c8 g h' h
    · have := c6 g h; omega
    · have := c6 g h; omega
  · rintro j g h (h' | h' | h')
    · exact c9 j g h' h
    · have := c7 j g h; omega
    · have := c7 j g h; omega
  · intro g h; rcases hKR g h with h | h
    · have := c5 g h; omega
    · omega
  · intro g h; have := c6 g h; omega
  · intro j g h; have := c7 j g h; omega
  · intro g h h'; rcases hKR g h with h | h
    · exact c8 g h h'
    · have := c6 g h'; omega
  · intro j g h h'; rcases hKR g h with h | h
    · exact c9 j g h h'
    · have := c7 j g h'; omega
theorem Fl.setToks {s s' : St} {lo rp tp : Nat} {KR KT KT' : Nat → Prop} {L L' : Nat → Nat → Prop} {acc acc' : List Tok} {run : List Int} {v : AV} (h : Fl s lo rp tp KR KT L acc run) (hk : Keeps (fun g => KT g ∨ g = tp ∨ s.n ≤ g) s s') (hg : s'.get tp = some ⟨[v], 28, true, tp⟩) (ho : OwX oTokK s' KT' L' TK v acc') (hKT : ∀ g, KT' g → KT g ∨ (s.n ≤ g ∧ g < s'.n)) (hL : ∀ j g, L' j g → L j g ∨ (s.n ≤ g ∧ g < s'.n)) (hd : ∀ i j g, L' i g → L' j g → i = j) : Fl s' lo rp tp KR KT' L' acc' run := by
  obtain ⟨⟨rv, r1, r2⟩, ⟨tv, t1, t2⟩, c1, c2, c3, c4, c5, c6, c7, c8, c9, c10⟩ := h
  have hn := hk.n
  refine ⟨⟨rv, hk.get _ _ r1 ?_, r2.keep hk ?_⟩, ⟨v, hg, ho⟩, c1, c2, c3, by omega, ?_, ?_, ?_, ?_, ?_, hd⟩
  · rintro (h | h | h)
    · have := c6 rp h; omega
    · exact c1 h
    · simp only at h; omega
  · rintro g h (h' | h' | h')
    · exact c8 g h h'
    · have := c5 g h; omega
    · have := c5 g h; omega
  · intro g h; have := c5 g h; omega
  · intro g h; rcases hKT g h with h | h
    · have := c6 g h; omega
    · omega
  · intro j g h; rcases hL j g h with h | h
    · have := c7 j g h; omega
    · omega
  · intro g h h'; rcases hKT g h' with h' | h'
    · exact c8 g h h'
    · have := c5 g h; omega
  · intro j g h h'; rcases hL j g h' with h' | h'
    · exact c9 j g h h'
    · have := c5 g h; omega
set_option maxHeartbeats 4000000 in
theorem tokens_ok {st : St} (hw : WF st) {K : Nat → Prop} {v : AV} {b : List Int} (depth : Int) (h : RdB st K v b) (hl : b.length ≤ 1048576) :
    ACalls Tryd.prog 16 [v, i64 depth] st (ParQ st (rtoks b depth)) := by
  replace h := h.lt hw
  have hvs := h.solid
  have hln := h.len
  refine acalls_of Tryd.func16 rfl (by kernel_rfl) (by simp [hvs]; rfl) ?_
  unfold rtoks
  by_cases hbig : 32768 < b.length
  · have d1 : decide ((b.length : Int) > 32768) = true := decide_eq_true (by omega)
    rw [if_pos hbig]
    repeat (first | (refine aw_seq ?_) | (refine aw_reg0 (by simp only [SZ, Nat.reduceAdd]; exact rfl) ?_) | (refine aw_reg (by decide +kernel) (by simp only [SZ, Nat.reduceAdd]; exact rfl) ?_) | (refine aw_regS (by decide +kernel) (by simp only [SZ, Nat.reduceAdd]; exact rfl) ?_) | (refine arl_nil ?_) | (refine aw_skip ?_) | (refine aw_block ?_) | (refine aw_exit ?_) | (refine aw_ret ?_) | (refine arl_cons rfl rfl (by simp +decide only [aop, abuiltin, aeval, aintBin, bin_int, aload_bump, SS, reduceIte, reduceCtorEq, hln, d1]; exact rfl) (by first | rfl | with_reducible assumption) rfl ?_) | (refine arl_none rfl rfl (by simp +decide only [aop, abuiltin, aeval, aintBin, bin_int, aload_bump, SS, reduceIte, reduceCtorEq, hln, d1]; exact rfl) rfl rfl ?_) | (refine arl_off rfl rfl ?_) | (refine aw_condT (by simp +decide only [aop, abuiltin, aeval, aintBin, bin_int, aload_bump, SS, reduceIte, reduceCtorEq, hln, d1]; first | done | exact rfl) ?_) | (refine aw_condF (by simp +decide only [aop, abuiltin, aeval, aintBin, bin_int, aload_bump, SS, reduceIte, reduceCtorEq, hln, d1]; first | done | exact rfl) ?_))
    exact ⟨.inr rfl, _, rfl, (by repeat (first | exact Keeps.refl _ _ | (refine Keeps.bumpR ?_ _))), _, fun _ _ => False, rfl, rfl, OwX.nil, fun _ _ h => h.elim, fun _ _ _ h => h.elim⟩
  · have d1 : decide ((b.length : Int) > 32768) = false := decide_eq_false (by omega)
    rw [if_neg hbig]
    obtain ⟨dn, hdn⟩ : ∃ dn : Nat, min (max depth 0) 32 = (dn : Int) := ⟨(min (max depth 0) 32).toNat, by omega⟩
    have hmax : amax [i64 depth, i64 0] = some (i64 (max depth 0)) := by
      simp only [amax]
      by_cases hq : 0 > depth
      · rw [if_pos hq, show max depth 0 = 0 by omega]
      · rw [if_neg hq, show max depth 0 = depth by omega]
    have hmin : amin [i64 (max depth 0), i64 32] = some (i64 dn) := by
      simp only [amin]
      by_cases hq : 32 < max depth 0
      · rw [if_pos hq, show (32 : Int) = dn by omega]
      · rw [if_neg hq, show max depth 0 = (dn : Int) by omega]
    rw [grd_clamp b depth dn hdn]
    obtain ⟨cs, hcl, hmk⟩ := mkI b.length (by omega)
    have hbc := bldC ⟨h.cell.1, hvs⟩ h.isSl
    repeat (first | (refine aw_seq ?_) | (refine aw_reg0 (by simp only [SZ, Nat.reduceAdd]; exact rfl) ?_) | (refine aw_reg (by decide +kernel) (by simp only [SZ, Nat.reduceAdd]; exact rfl) ?_) | (refine aw_regS (by decide +kernel) (by simp only [SZ, Nat.reduceAdd]; exact rfl) ?_) | (refine arl_nil ?_) | (refine aw_skip ?_) | (refine aw_block ?_) | (refine aw_exit ?_) | (refine aw_ret ?_) | (refine arl_cons rfl rfl (by simp +decide only [aop, abuiltin, aeval, aintBin, bin_int, aload_bump, SS, reduceIte, reduceCtorEq, hln, d1, hmax, hmin]; exact rfl) (by first | rfl | with_reducible assumption) rfl ?_) | (refine arl_none rfl rfl (by simp +decide only [aop, abuiltin, aeval, aintBin, bin_int, aload_bump, SS, reduceIte, reduceCtorEq, hln, d1, hmax, hmin]; exact rfl) rfl rfl ?_) | (refine arl_off rfl rfl ?_) | (refine aw_condT (by simp +decide only [aop, abuiltin, aeval, aintBin, bin_int, aload_bump, SS, reduceIte, reduceCtorEq, hln, d1, hmax, hmin]; first | done | exact rfl) ?_) | (refine aw_condF (by simp +decide only [aop, abuiltin, aeval, aintBin, bin_int, aload_bump, SS, reduceIte, reduceCtorEq, hln, d1, hmax, hmin]; first | done | exact rfl) ?_))
    refine arl_cons rfl rfl (by simp +decide only [aop, abuiltin, aeval, aintBin, bin_int, aload_bump, SS, reduceIte, reduceCtorEq, hmk]; exact rfl) (by first | rfl | with_reducible assumption) rfl ?_
    refine arl_cons rfl rfl (by simp +decide only [aop, abuiltin, aeval, aintBin, bin_int, aload_bump, SS, reduceIte, reduceCtorEq, hbc]; exact rfl) (by first | rfl | with_reducible assumption) rfl ?_
    refine arl_box (cs := v :: (List.replicate 4096 (i32 0) ++ [.sl (st.n + 12) 0 b.length 1])) rfl rfl rfl szC rfl rfl rfl ?fr ?_
    case fr =>
      rw [get_put_ne _ (by simp only [n_bump]; omega)]
      exact fresh hw (by first | omega | (simp only [n_bump, n_put]; omega) | (simp only [n_bump, n_put] at *; omega))
    intro sa hna hwfa hEa hga hDa
    replace hna : sa.n = st.n + 16 := by rw [hna]; simp only [n_put, n_bump]
    have hwa : WF sa := hwfa (WF.put (by repeat (first | assumption | (refine WF.bump ?_ _))) (by simp only [n_bump, n_put, n_touch, n_kill] at *; omega) (by simp only [n_bump, n_put, n_touch, n_kill] at *; omega)) (by simp only [n_bump, n_put, n_touch, n_kill] at *; omega)
    have hbka : sa.get (st.n + 12) = some ⟨cs, 21, true, st.n + 12⟩ := hEa.get _ _ (get_put _ _) (fun h => h)
    replace hEa : Ext st sa := Keeps.trans (show Ext st _ from Keeps.putF (by repeat (first | exact Keeps.refl _ _ | (refine Keeps.bumpR ?_ _))) (fresh hw (by first | omega | (simp only [n_bump, n_put]; omega) | (simp only [n_bump, n_put] at *; omega)))) hEa
    replace hga : sa.get (st.n + 14) = some ⟨v :: (List.replicate 4096 (i32 0) ++ [.sl (st.n + 12) 0 b.length 1]), 62, true, st.n + 14⟩ := hga
    refine arl_cons rfl rfl (by simp +decide only [aop, abuiltin, aeval, aintBin, bin_int, aload_bump, SS, reduceIte, reduceCtorEq]; exact rfl) (by first | rfl | with_reducible assumption) rfl ?_
    repeat (first | (refine aw_seq ?_) | (refine aw_reg0 (by simp only [SZ, Nat.reduceAdd]; exact rfl) ?_) | (refine aw_reg (by decide +kernel) (by simp only [SZ, Nat.reduceAdd]; exact rfl) ?_) | (refine aw_regS (by decide +kernel) (by simp only [SZ, Nat.reduceAdd]; exact rfl) ?_) | (refine arl_nil ?_) | (refine aw_skip ?_) | (refine aw_block ?_) | (refine aw_exit ?_) | (refine aw_ret ?_))
    refine arl_alloc rfl rfl rfl szTs zTs (fresh hwa (by first | omega | (simp only [n_bump, n_put]; omega) | (simp only [n_bump, n_put] at *; omega))) ?_
    intro sb hnb hwfb hEb hgb hDb
    have hwb : WF sb := hwfb (by repeat (first | assumption | (refine WF.bump ?_ _))) (by simp only [n_bump, n_put, n_touch, n_kill] at *; omega)
    replace hEb : Ext sa sb := Keeps.trans (show Ext sa _ from (by repeat (first | exact Keeps.refl _ _ | (refine Keeps.bumpR ?_ _)))) hEb
    replace hnb : sb.n = st.n + 17 := by rw [hnb]; simp only [n_bump]; omega
    repeat (first | (refine aw_seq ?_) | (refine aw_reg0 (by simp only [SZ, Nat.reduceAdd]; exact rfl) ?_) | (refine aw_reg (by decide +kernel) (by simp only [SZ, Nat.reduceAdd]; exact rfl) ?_) | (refine aw_regS (by decide +kernel) (by simp only [SZ, Nat.reduceAdd]; exact rfl) ?_) | (refine arl_nil ?_) | (refine aw_skip ?_) | (refine aw_block ?_) | (refine aw_exit ?_) | (refine aw_ret ?_))
    refine arl_alloc rfl rfl rfl szB zBs (fresh hwb (by first | omega | (simp only [n_bump, n_put]; omega) | (simp only [n_bump, n_put] at *; omega))) ?_
    intro sc hnc hwfc hEc hgc hDc
    have hwc : WF sc := hwfc (by repeat (first | assumption | (refine WF.bump ?_ _))) (by simp only [n_bump, n_put, n_touch, n_kill] at *; omega)
    replace hEc : Ext sb sc := Keeps.trans (show Ext sb _ from (by repeat (first | exact Keeps.refl _ _ | (refine Keeps.bumpR ?_ _)))) hEc
    replace hnc : sc.n = st.n + 18 := by rw [hnc]; simp only [n_bump]; omega
    repeat (first | (refine aw_seq ?_) | (refine aw_reg0 (by simp only [SZ, Nat.reduceAdd]; exact rfl) ?_) | (refine aw_reg (by decide +kernel) (by simp only [SZ, Nat.reduceAdd]; exact rfl) ?_) | (refine aw_regS (by decide +kernel) (by simp only [SZ, Nat.reduceAdd]; exact rfl) ?_) | (refine arl_nil ?_) | (refine aw_skip ?_) | (refine aw_block ?_) | (refine aw_exit ?_) | (refine aw_ret ?_) | (refine arl_cons rfl rfl (by simp +decide only [aop, abuiltin, aeval, aintBin, bin_int, aload_bump, SS, reduceIte, reduceCtorEq]; exact rfl) (by first | rfl | with_reducible assumption) rfl ?_) | (refine arl_none rfl rfl (by simp +decide only [aop, abuiltin, aeval, aintBin, bin_int, aload_bump, SS, reduceIte, reduceCtorEq]; exact rfl) rfl rfl ?_) | (refine arl_off rfl rfl ?_) | (refine aw_condT (by simp +decide only [aop, abuiltin, aeval, aintBin, bin_int, aload_bump, SS, reduceIte, reduceCtorEq]; first | done | exact rfl) ?_) | (refine aw_condF (by simp +decide only [aop, abuiltin, aeval, aintBin, bin_int, aload_bump, SS, reduceIte, reduceCtorEq]; first | done | exact rfl) ?_))
    obtain ⟨c, hc⟩ : ∃ c, c = st.n + 14 := ⟨_, rfl⟩
    obtain ⟨bk, hbk⟩ : ∃ c, c = st.n + 12 := ⟨_, rfl⟩
    obtain ⟨tp, htp⟩ : ∃ c, c = st.n + 16 := ⟨_, rfl⟩
    obtain ⟨rp, hrp⟩ : ∃ c, c = st.n + 17 := ⟨_, rfl⟩
    have hSc : Ext st sc := (hEa.trans hEb).trans hEc
    have hC0 : Chn sc c c v b bk bk 0 := (Chn.new (by omega) (by rw [hc, hbk]; exact hga) (by rw [hbk]; exact hbka) hcl).up (hEb.trans hEc)
    have hF0 : Fl sc (st.n + 18) rp tp (fun _ => False) (fun _ => False) (fun _ _ => False) [] [] := by
      refine ⟨⟨_, ?_, .inl ⟨rfl, rfl⟩⟩, ⟨_, ?_, OwX.nil⟩, by omega, by omega, by omega, by omega, fun _ h => h.elim, fun _ h => h.elim, fun _ _ h => h.elim, fun _ h => h.elim, fun _ _ h => h.elim, fun _ _ _ h => h.elim⟩
      · rw [show rp = sb.n + 0 by omega]; exact hgc
      · rw [show tp = sa.n + 0 by omega]; exact hEc.get _ _ hgb (fun h => h)
    refine aw_rounds_wf (fun m fr s => Ext st s ∧ st.n + 18 ≤ s.n ∧ ∃ (n i from_ : Nat) (acc : List Tok) (KR KT : Nat → Prop) (L : Nat → Nat → Prop), i ≤ b.length ∧ from_ ≤ i ∧ b.length ≤ n + i ∧ m = b.length - i ∧ acc.length ≤ 2 * from_ ∧ fr 0 = v ∧ fr 1 = i64 dn ∧ fr 6 = .ptr c 0 ∧ fr 7 = .ptr tp 0 ∧ fr 8 = .ptr rp 0 ∧ fr 9 = .fn 28 [.ptr rp 0, .ptr tp 0] ∧ fr 10 = i64 i ∧ Chn s c c v b bk bk i ∧ Fl s (st.n + 18) rp tp KR KT L acc ((b.drop from_).take (i - from_)) ∧ grd b dn b.length 0 0 [] = grd b dn n from_ i acc) ?_ b.length _ _ (by repeat (first | assumption | (refine WF.bump ?_ _))) ?_
    · rintro m fr sx hws ⟨hE, hsn, n, i, from_, acc, KR, KT, L, hi, hfi, hni, rfl, hal, f0, f1, f6, f7, f8, f9, f10, hC, hF, hg⟩
      have hEn := hE.n
      have hbx := h.up hE
      by_cases hlt : i < b.length
      · have d2 : decide ((i : Int) < (b.length : Int)) = true := decide_eq_true (by omega)
        obtain ⟨n, rfl⟩ : ∃ q, n = q + 1 := ⟨n - 1, by omega⟩
        rw [grd, if_pos hlt] at hg
        have hok := bst_ok b i i dn (0, 0) (Nat.le_refl _) (.inl rfl)
        have hwk := wrap_succ (k := i) (by omega)
        repeat (first | (refine aw_seq ?_) | (refine aw_reg0 (by simp only [SZ, Nat.reduceAdd]; exact rfl) ?_) | (refine aw_reg (by decide +kernel) (by simp only [SZ, Nat.reduceAdd]; exact rfl) ?_) | (refine aw_regS (by decide +kernel) (by simp only [SZ, Nat.reduceAdd]; exact rfl) ?_) | (refine arl_nil ?_) | (refine aw_skip ?_) | (refine aw_block ?_) | (refine aw_exit ?_) | (refine aw_ret ?_) | (refine arl_cons rfl rfl (by simp +decide only [aop, abuiltin, aeval, aintBin, bin_int, aload_bump, SS, reduceIte, reduceCtorEq, f10, hln, d2, f0, f1, f6]; exact rfl) (by first | rfl | with_reducible assumption) rfl ?_) | (refine arl_none rfl rfl (by simp +decide only [aop, abuiltin, aeval, aintBin, bin_int, aload_bump, SS, reduceIte, reduceCtorEq, f10, hln, d2, f0, f1, f6]; exact rfl) rfl rfl ?_) | (refine arl_off rfl rfl ?_) | (refine aw_condT (by simp +decide only [aop, abuiltin, aeval, aintBin, bin_int, aload_bump, SS, reduceIte, reduceCtorEq, f10, hln, d2, f0, f1, f6]; first | done | exact rfl) ?_) | (refine aw_condF (by simp +decide only [aop, abuiltin, aeval, aintBin, bin_int, aload_bump, SS, reduceIte, reduceCtorEq, f10, hln, d2, f0, f1, f6]; first | done | exact rfl) ?_))
        refine arl_call rfl rfl rfl rfl rfl rfl ((cbest_ok (by repeat (first | assumption | (refine WF.bump ?_ _))) i dn (by omega) (hC.up (by repeat (first | exact Keeps.refl _ _ | (refine Keeps.bumpR ?_ _)))) (hbx.up (by repeat (first | exact Keeps.refl _ _ | (refine Keeps.bumpR ?_ _)))) (by omega) hi).wf (by repeat (first | assumption | (refine WF.bump ?_ _) | (refine WF.put ?_ (by simp only [n_bump, n_put, n_touch, n_kill] at *; omega) (by simp only [n_bump, n_put, n_touch, n_kill] at *; omega)))) |>.mono ?_)
        rintro r s1 ⟨hw1, hn1, hE1, rfl⟩
        refine ⟨by first | rfl | with_reducible assumption, ?_⟩
        replace hE1 : Ext sx s1 := Keeps.trans (by repeat (first | assumption | exact Keeps.refl _ _ | (refine Keeps.bumpR ?_ _) | (refine Keeps.put ?_ (by assumption) (by simp only [n_bump, n_put, n_touch, n_kill] at *; omega)))) hE1
        have hN1 := hE1.n
        generalize bst b i i dn (0, 0) = r at *
        have hC1 := hC.up hE1
        have hF1 := hF.up hE1
        by_cases hz : r.2 = 0
        · have q2 : ((r.2 : Int) == 0) = true := by simp [hz]
          rw [if_pos hz] at hg
          obtain ⟨p, a1, a2, a3⟩ := (hbx.up hE1).atN .i64 i hlt
          obtain ⟨⟨rv, r1, r2⟩, -, c1, c2, c3, c4, c5, -⟩ := id hF1
          have hrs := r2.solid
          have hlr : aload Tryd.prog s1 22 (.ptr rp 0) = some rv := load_at uB rfl szB r1 rfl
          obtain ⟨g3, hg3⟩ : ∃ g, g = s1.n + 8 := ⟨_, rfl⟩
          have hrl : ((b.drop from_).take (i - from_)).length ≤ i - from_ := by rw [List.length_take]; omega
          repeat (first | (refine aw_seq ?_) | (refine aw_reg0 (by simp only [SZ, Nat.reduceAdd]; exact rfl) ?_) | (refine aw_reg (by decide +kernel) (by simp only [SZ, Nat.reduceAdd]; exact rfl) ?_) | (refine aw_regS (by decide +kernel) (by simp only [SZ, Nat.reduceAdd]; exact rfl) ?_) | (refine arl_nil ?_) | (refine aw_skip ?_) | (refine aw_block ?_) | (refine aw_exit ?_) | (refine aw_ret ?_) | (refine arl_cons rfl rfl (by simp +decide only [aop, abuiltin, aeval, aintBin, bin_int, aload_bump, SS, reduceIte, reduceCtorEq, q2, f8, hlr, f0, f10, a1, a3, lit1]; exact rfl) (by first | rfl | with_reducible assumption) rfl ?_) | (refine arl_none rfl rfl (by simp +decide only [aop, abuiltin, aeval, aintBin, bin_int, aload_bump, SS, reduceIte, reduceCtorEq, q2, f8, hlr, f0, f10, a1, a3, lit1]; exact rfl) rfl rfl ?_) | (refine arl_off rfl rfl ?_) | (refine aw_condT (by simp +decide only [aop, abuiltin, aeval, aintBin, bin_int, aload_bump, SS, reduceIte, reduceCtorEq, q2, f8, hlr, f0, f10, a1, a3, lit1]; first | done | exact rfl) ?_) | (refine aw_condF (by simp +decide only [aop, abuiltin, aeval, aintBin, bin_int, aload_bump, SS, reduceIte, reduceCtorEq, q2, f8, hlr, f0, f10, a1, a3, lit1]; first | done | exact rfl) ?_))
          refine arl_appC (K := fun g => KR g ∨ g = g3) (K' := fun _ => True) (xs := (b.drop from_).take (i - from_)) (ns := [b[i]]) rfl rfl rfl ((r2.mono (fun g h => .inl h)).up (by repeat (first | assumption | exact Keeps.refl _ _ | (refine Keeps.bumpR ?_ _) | (refine Keeps.put ?_ (by assumption) (by simp only [n_bump, n_put, n_touch, n_kill] at *; omega))))) (RdB.lit _ _ _ [_]) (.inr (by simp only [n_bump]; omega)) ?hfr (by simp; omega) ?_
          case hfr =>
            rw [get_put_ne _ (by simp only [n_bump]; omega)]
            exact fresh hw1 (by first | omega | (simp only [n_bump, n_put]; omega) | (simp only [n_bump, n_put] at *; omega))
          intro y s2 hB hn2 hK2 hwf2 hD2
          have hys := hB.solid
          have hw2 : WF s2 := hwf2 (by repeat (first | assumption | (refine WF.bump ?_ _) | (refine WF.put ?_ (by simp only [n_bump, n_put, n_touch, n_kill] at *; omega) (by simp only [n_bump, n_put, n_touch, n_kill] at *; omega)))) (by simp only [n_bump, n_put, n_touch, n_kill] at *; omega)
          replace hK2 : Keeps (fun g => KR g ∨ g = g3) s1 s2 := Keeps.trans (Keeps.mono (G := fun _ => False) (show Ext s1 _ from (by repeat (first | assumption | exact Keeps.refl _ _ | (refine Keeps.bumpR ?_ _) | (refine Keeps.put ?_ (by assumption) (by simp only [n_bump, n_put, n_touch, n_kill] at *; omega))))) (fun _ h => h.elim)) hK2
          replace hn2 : s2.n = s1.n + 10 := by rw [hn2]; simp only [n_put, n_bump]
          have r1' := hK2.get _ _ r1 (fun h => by rcases h with h | h; have := c5 rp h; omega; simp only at h; omega)
          refine arl_storeX (g := rp) (off := 0) rfl rfl rfl f8 rfl r1' szB hB.rd.cell.1 hB.rd.cell.2 hys (by simp) ?_
          intro s3 hn3 hwf3 hK3 hg3' hd3
          have hw3 : WF s3 := hwf3 hw2
          have hK13 : Keeps (fun g => KR g ∨ g = rp ∨ s1.n ≤ g) s1 s3 := (hK2.mono (fun g h => by rcases h with h | h; exact .inl h; exact .inr (.inr (by omega)))).trans (hK3.mono (fun g h => .inr (.inl h)))
          have hF3 := hF1.setRun hK13 hg3' (hB.end.keep hK3 (fun g h h' => by rcases h with h | h; have := c5 g h; omega; omega)) (fun g h => by rcases h with h | h; exact .inl h; exact .inr ⟨by omega, by omega⟩)
          have hC3 := hC1.keep hK13 (fun h => by rcases h with h | h | h; have := c5 c h; omega; omega; omega) (fun h => by rcases h with h | h | h; have := c5 bk h; omega; omega; omega)
          have hb3 := (hbx.up hE1).keep hK13 (fun g h h' => by rcases h' with h' | h' | h'; have := c5 g h'; omega; omega; omega)
          have hS3 : Ext st s3 := Keeps.call (hE.trans hE1) hK13 hw (fun g h => by right; rcases h with h | h | h; have := c5 g h; omega; omega; omega)
          repeat (first | (refine aw_seq ?_) | (refine aw_reg0 (by simp only [SZ, Nat.reduceAdd]; exact rfl) ?_) | (refine aw_reg (by decide +kernel) (by simp only [SZ, Nat.reduceAdd]; exact rfl) ?_) | (refine aw_regS (by decide +kernel) (by simp only [SZ, Nat.reduceAdd]; exact rfl) ?_) | (refine arl_nil ?_) | (refine aw_skip ?_) | (refine aw_block ?_) | (refine aw_exit ?_) | (refine aw_ret ?_) | (refine arl_cons rfl rfl (by simp +decide only [aop, abuiltin, aeval, aintBin, bin_int, aload_bump, SS, reduceIte, reduceCtorEq, f6, f10]; exact rfl) (by first | rfl | with_reducible assumption) rfl ?_) | (refine arl_none rfl rfl (by simp +decide only [aop, abuiltin, aeval, aintBin, bin_int, aload_bump, SS, reduceIte, reduceCtorEq, f6, f10]; exact rfl) rfl rfl ?_) | (refine arl_off rfl rfl ?_) | (refine aw_condT (by simp +decide only [aop, abuiltin, aeval, aintBin, bin_int, aload_bump, SS, reduceIte, reduceCtorEq, f6, f10]; first | done | exact rfl) ?_) | (refine aw_condF (by simp +decide only [aop, abuiltin, aeval, aintBin, bin_int, aload_bump, SS, reduceIte, reduceCtorEq, f6, f10]; first | done | exact rfl) ?_))
          refine arl_call rfl rfl rfl rfl rfl rfl ((enter_ok (by repeat (first | assumption | (refine WF.bump ?_ _))) i (hC3.up (by repeat (first | exact Keeps.refl _ _ | (refine Keeps.bumpR ?_ _)))) (hb3.up (by repeat (first | exact Keeps.refl _ _ | (refine Keeps.bumpR ?_ _)))) (by omega) hlt).wf (by repeat (first | assumption | (refine WF.bump ?_ _) | (refine WF.put ?_ (by simp only [n_bump, n_put, n_touch, n_kill] at *; omega) (by simp only [n_bump, n_put, n_touch, n_kill] at *; omega)))) |>.mono ?_)
          rintro x s4 ⟨hw4, hn4, hE4, hxs, hC4⟩
          refine ⟨hxs, ?_⟩
          replace hE4 : Keeps (fun x => x = c ∨ x = bk) s3 s4 := Keeps.trans (Keeps.mono (G := fun _ => False) (show Ext s3 _ from (by repeat (first | exact Keeps.refl _ _ | (refine Keeps.bumpR ?_ _)))) (fun _ h => h.elim)) hE4
          have hF4 := hF3.keep hE4 (by omega) (by omega) (fun g h => by omega)
          have hS4 : Ext st s4 := Keeps.call hS3 hE4 hw (fun g h => by right; omega)
          have hn4' := hE4.n
          repeat (first | (refine aw_seq ?_) | (refine aw_reg0 (by simp only [SZ, Nat.reduceAdd]; exact rfl) ?_) | (refine aw_reg (by decide +kernel) (by simp only [SZ, Nat.reduceAdd]; exact rfl) ?_) | (refine aw_regS (by decide +kernel) (by simp only [SZ, Nat.reduceAdd]; exact rfl) ?_) | (refine arl_nil ?_) | (refine aw_skip ?_) | (refine aw_block ?_) | (refine aw_exit ?_) | (refine aw_ret ?_) | (refine arl_cons rfl rfl (by simp +decide only [aop, abuiltin, aeval, aintBin, bin_int, aload_bump, SS, reduceIte, reduceCtorEq, f10, hwk]; exact rfl) (by first | rfl | with_reducible assumption) rfl ?_) | (refine arl_none rfl rfl (by simp +decide only [aop, abuiltin, aeval, aintBin, bin_int, aload_bump, SS, reduceIte, reduceCtorEq, f10, hwk]; exact rfl) rfl rfl ?_) | (refine arl_off rfl rfl ?_) | (refine aw_condT (by simp +decide only [aop, abuiltin, aeval, aintBin, bin_int, aload_bump, SS, reduceIte, reduceCtorEq, f10, hwk]; first | done | exact rfl) ?_) | (refine aw_condF (by simp +decide only [aop, abuiltin, aeval, aintBin, bin_int, aload_bump, SS, reduceIte, reduceCtorEq, f10, hwk]; first | done | exact rfl) ?_))
          refine ⟨b.length - (i + 1), by omega, hS4.trans (by repeat (first | exact Keeps.refl _ _ | (refine Keeps.bumpR ?_ _))), (by first | omega | (simp only [n_bump, n_put]; omega) | (simp only [n_bump, n_put] at *; omega)), n, i + 1, from_, acc, fun g => KR g ∨ g = g3, KT, L, by omega, by omega, by omega, rfl, hal, f0, f1, f6, f7, f8, f9, rfl, hC4.up (by repeat (first | exact Keeps.refl _ _ | (refine Keeps.bumpR ?_ _))), ?_, hg⟩
          have e : (b.drop from_).take (i + 1 - from_) = (b.drop from_).take (i - from_) ++ [b[i]] := by
            rw [show i + 1 - from_ = (i - from_) + 1 by omega, List.take_succ_eq_append_getElem (by rw [List.length_drop]; omega), List.getElem_drop]
            simp only [show from_ + (i - from_) = i by omega]
          rw [e]
          exact hF4.up (by repeat (first | exact Keeps.refl _ _ | (refine Keeps.bumpR ?_ _)))
        · have q2 : ((r.2 : Int) == 0) = false := by simp [hz]
          rw [if_neg hz] at hg
          have hok4 := hok.resolve_left hz
          have hin := lcp_in b 131 (i - r.1) i hi
          have hrl : ((b.drop from_).take (i - from_)).length ≤ i - from_ := by rw [List.length_take]; omega
          have hpl := pcs_len ((b.drop from_).take (i - from_))
          have hC1' := hC1
          repeat (first | (refine aw_seq ?_) | (refine aw_reg0 (by simp only [SZ, Nat.reduceAdd]; exact rfl) ?_) | (refine aw_reg (by decide +kernel) (by simp only [SZ, Nat.reduceAdd]; exact rfl) ?_) | (refine aw_regS (by decide +kernel) (by simp only [SZ, Nat.reduceAdd]; exact rfl) ?_) | (refine arl_nil ?_) | (refine aw_skip ?_) | (refine aw_block ?_) | (refine aw_exit ?_) | (refine aw_ret ?_) | (refine arl_cons rfl rfl (by simp +decide only [aop, abuiltin, aeval, aintBin, bin_int, aload_bump, SS, reduceIte, reduceCtorEq, q2, f9]; exact rfl) (by first | rfl | with_reducible assumption) rfl ?_) | (refine arl_none rfl rfl (by simp +decide only [aop, abuiltin, aeval, aintBin, bin_int, aload_bump, SS, reduceIte, reduceCtorEq, q2, f9]; exact rfl) rfl rfl ?_) | (refine arl_off rfl rfl ?_) | (refine aw_condT (by simp +decide only [aop, abuiltin, aeval, aintBin, bin_int, aload_bump, SS, reduceIte, reduceCtorEq, q2, f9]; first | done | exact rfl) ?_) | (refine aw_condF (by simp +decide only [aop, abuiltin, aeval, aintBin, bin_int, aload_bump, SS, reduceIte, reduceCtorEq, q2, f9]; first | done | exact rfl) ?_))
          refine arl_call rfl rfl rfl rfl rfl rfl ((flush_ok (by repeat (first | assumption | (refine WF.bump ?_ _))) (hF1.up (by repeat (first | exact Keeps.refl _ _ | (refine Keeps.bumpR ?_ _)))) (by omega)).wf (by repeat (first | assumption | (refine WF.bump ?_ _) | (refine WF.put ?_ (by simp only [n_bump, n_put, n_touch, n_kill] at *; omega) (by simp only [n_bump, n_put, n_touch, n_kill] at *; omega)))) |>.mono ?_)
          rintro y s2 ⟨hw2, hn2, hE2, hys, KT2, L2, hF2⟩
          refine ⟨hys, ?_⟩
          replace hE2 : Keeps (fun g => g = rp ∨ g = tp ∨ st.n + 18 ≤ g) s1 s2 := Keeps.trans (Keeps.mono (G := fun _ => False) (show Ext s1 _ from (by repeat (first | exact Keeps.refl _ _ | (refine Keeps.bumpR ?_ _)))) (fun _ h => h.elim)) hE2
          have hC2 := hC1.keep hE2 (by omega) (by omega)
          have hb2 := (hbx.up hE1).keep hE2 (fun g h h' => by omega)
          have hS2 : Ext st s2 := Keeps.call (hE.trans hE1) hE2 hw (fun g h => by right; omega)
          have hn2' := hE2.n
          have hn1' := hE1.n
          obtain ⟨-, ⟨tv, t1, t2⟩, c1, c2, c3, c4, c5, c6, c7, c8, c9, c10⟩ := id hF2
          have hts := t2.solid
          have hltv : aload Tryd.prog s2 28 (.ptr tp 0) = some tv := load_at uTs rfl szTs t1 rfl
          obtain ⟨g5, hg5⟩ : ∃ g, g = s2.n + 5 := ⟨_, rfl⟩
          repeat (first | (refine aw_seq ?_) | (refine aw_reg0 (by simp only [SZ, Nat.reduceAdd]; exact rfl) ?_) | (refine aw_reg (by decide +kernel) (by simp only [SZ, Nat.reduceAdd]; exact rfl) ?_) | (refine aw_regS (by decide +kernel) (by simp only [SZ, Nat.reduceAdd]; exact rfl) ?_) | (refine arl_nil ?_) | (refine aw_skip ?_) | (refine aw_block ?_) | (refine aw_exit ?_) | (refine aw_ret ?_) | (refine arl_cons rfl rfl (by simp +decide only [aop, abuiltin, aeval, aintBin, bin_int, aload_bump, SS, reduceIte, reduceCtorEq, f7, hltv, bldTc, litT1]; exact rfl) (by first | rfl | with_reducible assumption) rfl ?_) | (refine arl_none rfl rfl (by simp +decide only [aop, abuiltin, aeval, aintBin, bin_int, aload_bump, SS, reduceIte, reduceCtorEq, f7, hltv, bldTc, litT1]; exact rfl) rfl rfl ?_) | (refine arl_off rfl rfl ?_) | (refine aw_condT (by simp +decide only [aop, abuiltin, aeval, aintBin, bin_int, aload_bump, SS, reduceIte, reduceCtorEq, f7, hltv, bldTc, litT1]; first | done | exact rfl) ?_) | (refine aw_condF (by simp +decide only [aop, abuiltin, aeval, aintBin, bin_int, aload_bump, SS, reduceIte, reduceCtorEq, f7, hltv, bldTc, litT1]; first | done | exact rfl) ?_))
          refine arl_appX (k := oTokK) (K0 := KT2) (L0 := L2) (Kx := fun _ => True) (Kn := fun _ => False) (K := fun g => KT2 g ∨ g = g5) (L := L2) (xs := acc ++ pcs ((b.drop from_).take (i - from_))) (ns := [([], (r.1 : Int), (r.2 : Int))]) TTK rfl rfl rfl (t2.up (by repeat (first | assumption | exact Keeps.refl _ _ | (refine Keeps.bumpR ?_ _) | (refine Keeps.put ?_ (by assumption) (by simp only [n_bump, n_put, n_touch, n_kill] at *; omega))))) (RdL.one ⟨_, rfl, .inl ⟨rfl, rfl⟩⟩ rfl _ trivial _) (fun g _ h => h) ⟨fun h => h, fun h => .inr (by omega)⟩ (fun _ h => .inl h) (fun _ _ _ h => h) (fun _ _ _ _ h => h.elim) ?hfr (by simp; omega) (by simp; omega) ?_
          case hfr =>
            rw [get_put_ne _ (by omega)]
            exact fresh hw2 (by first | omega | (simp only [n_bump, n_put]; omega) | (simp only [n_bump, n_put] at *; omega))
          intro z s3 hO3 hn3 hK3 hwf3
          have hzs := hO3.solid
          have hzc := hO3.cell
          have hw3 : WF s3 := hwf3 (by repeat (first | assumption | (refine WF.bump ?_ _) | (refine WF.put ?_ (by simp only [n_bump, n_put, n_touch, n_kill] at *; omega) (by simp only [n_bump, n_put, n_touch, n_kill] at *; omega)))) (by simp only [n_bump, n_put, n_touch, n_kill] at *; omega)
          replace hK3 : Keeps KT2 s2 s3 := Keeps.trans (Keeps.mono (G := fun _ => False) (show Ext s2 _ from (by repeat (first | assumption | exact Keeps.refl _ _ | (refine Keeps.bumpR ?_ _) | (refine Keeps.put ?_ (by assumption) (by simp only [n_bump, n_put, n_touch, n_kill] at *; omega))))) (fun _ h => h.elim)) hK3
          replace hn3 : s3.n = s2.n + 7 := by rw [hn3]; simp only [n_put, n_bump]
          have t1' := hK3.get _ _ t1 (fun h => by have := c6 tp h; omega)
          refine arl_storeX (g := tp) (off := 0) rfl rfl rfl f7 rfl t1' szTs hzc.1 hzc.2 hzs (by simp) ?_
          intro s4 hn4 hwf4 hK4 hg4 hd4
          have hw4 : WF s4 := hwf4 hw3
          have hK24 : Keeps (fun g => KT2 g ∨ g = tp ∨ s2.n ≤ g) s2 s4 := (hK3.mono (fun g h => .inl h)).trans (hK4.mono (fun g h => .inr (.inl h)))
          have hF4 := hF2.setToks hK24 hg4 (hO3.keep hK4 (fun g h h' => by rcases h with h | h; have := c6 g h; omega; omega) (fun j g h h' => by have := c7 j g h; omega)) (fun g h => by rcases h with h | h; exact .inl h; exact .inr ⟨by omega, by omega⟩) (fun j g h => .inl h) c10
          have hC4 := hC2.keep hK24 (fun h => by rcases h with h | h | h; have := c6 c h; omega; omega; omega) (fun h => by rcases h with h | h | h; have := c6 bk h; omega; omega; omega)
          have hb4 := hb2.keep hK24 (fun g h h' => by rcases h' with h' | h' | h'; have := c6 g h'; omega; omega; omega)
          have hS4 : Ext st s4 := Keeps.call hS2 hK24 hw (fun g h => by right; rcases h with h | h | h; have := c6 g h; omega; omega; omega)
          repeat (first | (refine aw_seq ?_) | (refine aw_reg0 (by simp only [SZ, Nat.reduceAdd]; exact rfl) ?_) | (refine aw_reg (by decide +kernel) (by simp only [SZ, Nat.reduceAdd]; exact rfl) ?_) | (refine aw_regS (by decide +kernel) (by simp only [SZ, Nat.reduceAdd]; exact rfl) ?_) | (refine arl_nil ?_) | (refine aw_skip ?_) | (refine aw_block ?_) | (refine aw_exit ?_) | (refine aw_ret ?_) | (refine arl_cons rfl rfl (by simp +decide only [aop, abuiltin, aeval, aintBin, bin_int, aload_bump, SS, reduceIte, reduceCtorEq]; exact rfl) (by first | rfl | with_reducible assumption) rfl ?_) | (refine arl_none rfl rfl (by simp +decide only [aop, abuiltin, aeval, aintBin, bin_int, aload_bump, SS, reduceIte, reduceCtorEq]; exact rfl) rfl rfl ?_) | (refine arl_off rfl rfl ?_) | (refine aw_condT (by simp +decide only [aop, abuiltin, aeval, aintBin, bin_int, aload_bump, SS, reduceIte, reduceCtorEq]; first | done | exact rfl) ?_) | (refine aw_condF (by simp +decide only [aop, abuiltin, aeval, aintBin, bin_int, aload_bump, SS, reduceIte, reduceCtorEq]; first | done | exact rfl) ?_))
          refine AW.mono (AW.wf (aw_rounds_wf (fun d fr' s' => Keeps (fun x => x = c ∨ x = bk) s4 s' ∧ ∃ (k : Nat), k ≤ r.2 ∧ d = r.2 - k ∧ fr' 0 = v ∧ fr' 1 = i64 dn ∧ fr' 6 = .ptr c 0 ∧ fr' 7 = .ptr tp 0 ∧ fr' 8 = .ptr rp 0 ∧ fr' 9 = .fn 28 [.ptr rp 0, .ptr tp 0] ∧ fr' 10 = i64 ((i + k : Nat) : Int) ∧ fr' 59 = i64 r.2 ∧ fr' 60 = i64 k ∧ Chn s' c c v b bk bk (i + k))
            (Q := fun e fr' s' => e = .exit 2 ∧ Keeps (fun x => x = c ∨ x = bk) s4 s' ∧ fr' 0 = v ∧ fr' 1 = i64 dn ∧ fr' 6 = .ptr c 0 ∧ fr' 7 = .ptr tp 0 ∧ fr' 8 = .ptr rp 0 ∧ fr' 9 = .fn 28 [.ptr rp 0, .ptr tp 0] ∧ fr' 10 = i64 ((i + r.2 : Nat) : Int) ∧ Chn s' c c v b bk bk (i + r.2)) ?_ r.2 _ _ (by repeat (first | assumption | (refine WF.bump ?_ _))) ?_) (by repeat (first | assumption | (refine WF.bump ?_ _)))) ?_
          · rintro d fr' s' hws' ⟨hE', k, hk, rfl, f0, f1, f6, f7, f8, f9, f10, f59, f60, hCk⟩
            by_cases hkr : k < r.2
            · have d5 : decide ((k : Int) < (r.2 : Int)) = true := decide_eq_true (by omega)
              have hwk1 := wrap_succ (k := i + k) (by omega)
              have hwk2 := wrap_succ (k := k) (by omega)
              have hbk' := hb4.keep hE' (fun g h h' => by omega)
              repeat (first | (refine aw_seq ?_) | (refine aw_reg0 (by simp only [SZ, Nat.reduceAdd]; exact rfl) ?_) | (refine aw_reg (by decide +kernel) (by simp only [SZ, Nat.reduceAdd]; exact rfl) ?_) | (refine aw_regS (by decide +kernel) (by simp only [SZ, Nat.reduceAdd]; exact rfl) ?_) | (refine arl_nil ?_) | (refine aw_skip ?_) | (refine aw_block ?_) | (refine aw_exit ?_) | (refine aw_ret ?_) | (refine arl_cons rfl rfl (by simp +decide only [aop, abuiltin, aeval, aintBin, bin_int, aload_bump, SS, reduceIte, reduceCtorEq, f60, f59, d5, f6, f10]; exact rfl) (by first | rfl | with_reducible assumption) rfl ?_) | (refine arl_none rfl rfl (by simp +decide only [aop, abuiltin, aeval, aintBin, bin_int, aload_bump, SS, reduceIte, reduceCtorEq, f60, f59, d5, f6, f10]; exact rfl) rfl rfl ?_) | (refine arl_off rfl rfl ?_) | (refine aw_condT (by simp +decide only [aop, abuiltin, aeval, aintBin, bin_int, aload_bump, SS, reduceIte, reduceCtorEq, f60, f59, d5, f6, f10]; first | done | exact rfl) ?_) | (refine aw_condF (by simp +decide only [aop, abuiltin, aeval, aintBin, bin_int, aload_bump, SS, reduceIte, reduceCtorEq, f60, f59, d5, f6, f10]; first | done | exact rfl) ?_))
              refine arl_call rfl rfl rfl rfl rfl rfl ((enter_ok (by repeat (first | assumption | (refine WF.bump ?_ _))) (i + k) (hCk.up (by repeat (first | exact Keeps.refl _ _ | (refine Keeps.bumpR ?_ _)))) (hbk'.up (by repeat (first | exact Keeps.refl _ _ | (refine Keeps.bumpR ?_ _)))) (by omega) (by omega)).wf (by repeat (first | assumption | (refine WF.bump ?_ _) | (refine WF.put ?_ (by simp only [n_bump, n_put, n_touch, n_kill] at *; omega) (by simp only [n_bump, n_put, n_touch, n_kill] at *; omega)))) |>.mono ?_)
              rintro x s5 ⟨hw5, hn5, hE5, hxs, hC5⟩
              refine ⟨hxs, ?_⟩
              replace hE5 : Keeps (fun x => x = c ∨ x = bk) s' s5 := Keeps.trans (Keeps.mono (G := fun _ => False) (show Ext s' _ from (by repeat (first | exact Keeps.refl _ _ | (refine Keeps.bumpR ?_ _)))) (fun _ h => h.elim)) hE5
              repeat (first | (refine aw_seq ?_) | (refine aw_reg0 (by simp only [SZ, Nat.reduceAdd]; exact rfl) ?_) | (refine aw_reg (by decide +kernel) (by simp only [SZ, Nat.reduceAdd]; exact rfl) ?_) | (refine aw_regS (by decide +kernel) (by simp only [SZ, Nat.reduceAdd]; exact rfl) ?_) | (refine arl_nil ?_) | (refine aw_skip ?_) | (refine aw_block ?_) | (refine aw_exit ?_) | (refine aw_ret ?_) | (refine arl_cons rfl rfl (by simp +decide only [aop, abuiltin, aeval, aintBin, bin_int, aload_bump, SS, reduceIte, reduceCtorEq, f10, hwk1, f60, hwk2]; exact rfl) (by first | rfl | with_reducible assumption) rfl ?_) | (refine arl_none rfl rfl (by simp +decide only [aop, abuiltin, aeval, aintBin, bin_int, aload_bump, SS, reduceIte, reduceCtorEq, f10, hwk1, f60, hwk2]; exact rfl) rfl rfl ?_) | (refine arl_off rfl rfl ?_) | (refine aw_condT (by simp +decide only [aop, abuiltin, aeval, aintBin, bin_int, aload_bump, SS, reduceIte, reduceCtorEq, f10, hwk1, f60, hwk2]; first | done | exact rfl) ?_) | (refine aw_condF (by simp +decide only [aop, abuiltin, aeval, aintBin, bin_int, aload_bump, SS, reduceIte, reduceCtorEq, f10, hwk1, f60, hwk2]; first | done | exact rfl) ?_))
              exact ⟨r.2 - (k + 1), by omega, (hE'.trans hE5).trans (Keeps.mono (G := fun _ => False) (by repeat (first | exact Keeps.refl _ _ | (refine Keeps.bumpR ?_ _))) (fun _ h => h.elim)), k + 1, by omega, rfl, f0, f1, f6, f7, f8, f9, rfl, f59, rfl, hC5.up (by repeat (first | exact Keeps.refl _ _ | (refine Keeps.bumpR ?_ _)))⟩
            · have d5 : decide ((k : Int) < (r.2 : Int)) = false := decide_eq_false (by omega)
              obtain rfl : k = r.2 := by omega
              repeat (first | (refine aw_seq ?_) | (refine aw_reg0 (by simp only [SZ, Nat.reduceAdd]; exact rfl) ?_) | (refine aw_reg (by decide +kernel) (by simp only [SZ, Nat.reduceAdd]; exact rfl) ?_) | (refine aw_regS (by decide +kernel) (by simp only [SZ, Nat.reduceAdd]; exact rfl) ?_) | (refine arl_nil ?_) | (refine aw_skip ?_) | (refine aw_block ?_) | (refine aw_exit ?_) | (refine aw_ret ?_) | (refine arl_cons rfl rfl (by simp +decide only [aop, abuiltin, aeval, aintBin, bin_int, aload_bump, SS, reduceIte, reduceCtorEq, f60, f59, d5]; exact rfl) (by first | rfl | with_reducible assumption) rfl ?_) | (refine arl_none rfl rfl (by simp +decide only [aop, abuiltin, aeval, aintBin, bin_int, aload_bump, SS, reduceIte, reduceCtorEq, f60, f59, d5]; exact rfl) rfl rfl ?_) | (refine arl_off rfl rfl ?_) | (refine aw_condT (by simp +decide only [aop, abuiltin, aeval, aintBin, bin_int, aload_bump, SS, reduceIte, reduceCtorEq, f60, f59, d5]; first | done | exact rfl) ?_) | (refine aw_condF (by simp +decide only [aop, abuiltin, aeval, aintBin, bin_int, aload_bump, SS, reduceIte, reduceCtorEq, f60, f59, d5]; first | done | exact rfl) ?_))
              exact ⟨rfl, hE'.trans (Keeps.mono (G := fun _ => False) (by repeat (first | exact Keeps.refl _ _ | (refine Keeps.bumpR ?_ _))) (fun _ h => h.elim)), f0, f1, f6, f7, f8, f9, f10, hCk.up (by repeat (first | exact Keeps.refl _ _ | (refine Keeps.bumpR ?_ _)))⟩
          · exact ⟨Keeps.mono (G := fun _ => False) (by repeat (first | exact Keeps.refl _ _ | (refine Keeps.bumpR ?_ _))) (fun _ h => h.elim), 0, by omega, rfl, f0, f1, f6, f7, f8, f9, f10, rfl, rfl, hC4.up (by repeat (first | exact Keeps.refl _ _ | (refine Keeps.bumpR ?_ _)))⟩
          rintro e5 fr5 s5 ⟨hw5, hn5, rfl, hE5, f0, f1, f6, f7, f8, f9, f10, hC5⟩
          have hF5 := hF4.keep hE5 (by omega) (by omega) (fun g h => by omega)
          have hS5 : Ext st s5 := Keeps.call hS4 hE5 hw (fun g h => by right; omega)
          have hn5' := hE5.n
          repeat (first | (refine aw_seq ?_) | (refine aw_reg0 (by simp only [SZ, Nat.reduceAdd]; exact rfl) ?_) | (refine aw_reg (by decide +kernel) (by simp only [SZ, Nat.reduceAdd]; exact rfl) ?_) | (refine aw_regS (by decide +kernel) (by simp only [SZ, Nat.reduceAdd]; exact rfl) ?_) | (refine arl_nil ?_) | (refine aw_skip ?_) | (refine aw_block ?_) | (refine aw_exit ?_) | (refine aw_ret ?_) | (refine arl_cons rfl rfl (by simp +decide only [aop, abuiltin, aeval, aintBin, bin_int, aload_bump, SS, reduceIte, reduceCtorEq]; exact rfl) (by first | rfl | with_reducible assumption) rfl ?_) | (refine arl_none rfl rfl (by simp +decide only [aop, abuiltin, aeval, aintBin, bin_int, aload_bump, SS, reduceIte, reduceCtorEq]; exact rfl) rfl rfl ?_) | (refine arl_off rfl rfl ?_) | (refine aw_condT (by simp +decide only [aop, abuiltin, aeval, aintBin, bin_int, aload_bump, SS, reduceIte, reduceCtorEq]; first | done | exact rfl) ?_) | (refine aw_condF (by simp +decide only [aop, abuiltin, aeval, aintBin, bin_int, aload_bump, SS, reduceIte, reduceCtorEq]; first | done | exact rfl) ?_))
          refine ⟨b.length - (i + r.2), by omega, hS5.trans (by repeat (first | exact Keeps.refl _ _ | (refine Keeps.bumpR ?_ _))), (by first | omega | (simp only [n_bump, n_put]; omega) | (simp only [n_bump, n_put] at *; omega)), n, i + r.2, i + r.2, _, KR, fun g => KT2 g ∨ g = g5, L2, by omega, by omega, by omega, rfl, ?_, f0, f1, f6, f7, f8, f9, f10, hC5.up (by repeat (first | exact Keeps.refl _ _ | (refine Keeps.bumpR ?_ _))), ?_, hg⟩
          · rw [List.length_append, List.length_append, List.length_singleton]; omega
          · rw [Nat.sub_self, List.take_zero]
            exact hF5.up (by repeat (first | exact Keeps.refl _ _ | (refine Keeps.bumpR ?_ _)))
      · have d2 : decide ((i : Int) < (b.length : Int)) = false := decide_eq_false (by omega)
        have hg2 : grd b dn n from_ i acc = acc ++ pcs ((b.drop from_).take (i - from_)) := by
          cases n with
          | zero => rfl
          | succ n => rw [grd, if_neg hlt]
        have hrl : ((b.drop from_).take (i - from_)).length ≤ i - from_ := by rw [List.length_take]; omega
        repeat (first | (refine aw_seq ?_) | (refine aw_reg0 (by simp only [SZ, Nat.reduceAdd]; exact rfl) ?_) | (refine aw_reg (by decide +kernel) (by simp only [SZ, Nat.reduceAdd]; exact rfl) ?_) | (refine aw_regS (by decide +kernel) (by simp only [SZ, Nat.reduceAdd]; exact rfl) ?_) | (refine arl_nil ?_) | (refine aw_skip ?_) | (refine aw_block ?_) | (refine aw_exit ?_) | (refine aw_ret ?_) | (refine arl_cons rfl rfl (by simp +decide only [aop, abuiltin, aeval, aintBin, bin_int, aload_bump, SS, reduceIte, reduceCtorEq, f10, hln, d2, f0, f9]; exact rfl) (by first | rfl | with_reducible assumption) rfl ?_) | (refine arl_none rfl rfl (by simp +decide only [aop, abuiltin, aeval, aintBin, bin_int, aload_bump, SS, reduceIte, reduceCtorEq, f10, hln, d2, f0, f9]; exact rfl) rfl rfl ?_) | (refine arl_off rfl rfl ?_) | (refine aw_condT (by simp +decide only [aop, abuiltin, aeval, aintBin, bin_int, aload_bump, SS, reduceIte, reduceCtorEq, f10, hln, d2, f0, f9]; first | done | exact rfl) ?_) | (refine aw_condF (by simp +decide only [aop, abuiltin, aeval, aintBin, bin_int, aload_bump, SS, reduceIte, reduceCtorEq, f10, hln, d2, f0, f9]; first | done | exact rfl) ?_))
        refine arl_call rfl rfl rfl rfl rfl rfl ((flush_ok (by repeat (first | assumption | (refine WF.bump ?_ _))) (hF.up (by repeat (first | exact Keeps.refl _ _ | (refine Keeps.bumpR ?_ _)))) (by omega)).wf (by repeat (first | assumption | (refine WF.bump ?_ _) | (refine WF.put ?_ (by simp only [n_bump, n_put, n_touch, n_kill] at *; omega) (by simp only [n_bump, n_put, n_touch, n_kill] at *; omega)))) |>.mono ?_)
        rintro r s1 ⟨hw1, hn1, hE1, hrs, KT', L', hF1⟩
        refine ⟨hrs, ?_⟩
        replace hE1 : Keeps (fun g => g = rp ∨ g = tp ∨ st.n + 18 ≤ g) sx s1 := Keeps.trans (Keeps.mono (G := fun _ => False) (show Ext sx _ from (by repeat (first | exact Keeps.refl _ _ | (refine Keeps.bumpR ?_ _)))) (fun _ h => h.elim)) hE1
        obtain ⟨⟨rv, r1, r2⟩, ⟨tv, t1, t2⟩, c1, c2, c3, c4, c5, c6, c7, c8, c9, c10⟩ := hF1
        have hts := t2.solid
        have hlt2 : aload Tryd.prog s1 28 (.ptr tp 0) = some tv := load_at uTs rfl szTs t1 rfl
        repeat (first | (refine aw_seq ?_) | (refine aw_reg0 (by simp only [SZ, Nat.reduceAdd]; exact rfl) ?_) | (refine aw_reg (by decide +kernel) (by simp only [SZ, Nat.reduceAdd]; exact rfl) ?_) | (refine aw_regS (by decide +kernel) (by simp only [SZ, Nat.reduceAdd]; exact rfl) ?_) | (refine arl_nil ?_) | (refine aw_skip ?_) | (refine aw_block ?_) | (refine aw_exit ?_) | (refine aw_ret ?_) | (refine arl_cons rfl rfl (by simp +decide only [aop, abuiltin, aeval, aintBin, bin_int, aload_bump, SS, reduceIte, reduceCtorEq, f7, hlt2]; exact rfl) (by first | rfl | with_reducible assumption) rfl ?_) | (refine arl_none rfl rfl (by simp +decide only [aop, abuiltin, aeval, aintBin, bin_int, aload_bump, SS, reduceIte, reduceCtorEq, f7, hlt2]; exact rfl) rfl rfl ?_) | (refine arl_off rfl rfl ?_) | (refine aw_condT (by simp +decide only [aop, abuiltin, aeval, aintBin, bin_int, aload_bump, SS, reduceIte, reduceCtorEq, f7, hlt2]; first | done | exact rfl) ?_) | (refine aw_condF (by simp +decide only [aop, abuiltin, aeval, aintBin, bin_int, aload_bump, SS, reduceIte, reduceCtorEq, f7, hlt2]; first | done | exact rfl) ?_))
        refine ⟨.inr rfl, _, rfl, (Keeps.call hE hE1 hw (fun g h => by right; omega)).trans (by repeat (first | exact Keeps.refl _ _ | (refine Keeps.bumpR ?_ _))), tv, L', rfl, hts, ?_, fun j g h => ?_, c10⟩
        · rw [hg, hg2]
          exact (t2.mono (fun g h => ⟨by have := c6 g h; omega, by have := c6 g h; first | omega | (simp only [n_bump]; omega)⟩) (fun _ _ h => h)).up (by repeat (first | exact Keeps.refl _ _ | (refine Keeps.bumpR ?_ _)))
        · have := c7 j g h
          exact ⟨by omega, by first | omega | (simp only [n_bump]; omega)⟩
    · refine ⟨hSc.trans (by repeat (first | exact Keeps.refl _ _ | (refine Keeps.bumpR ?_ _))), by simp only [n_bump]; omega, b.length, 0, 0, [], fun _ => False, fun _ => False, fun _ _ => False, by omega, by omega, by omega, rfl, by simp, rfl, rfl, ?_, ?_, ?_, ?_, rfl, hC0.up (by repeat (first | exact Keeps.refl _ _ | (refine Keeps.bumpR ?_ _))), hF0.up (by repeat (first | exact Keeps.refl _ _ | (refine Keeps.bumpR ?_ _))), rfl⟩
      · show AV.ptr _ 0 = _
        congr 1
        rw [hc]
        simp only [n_bump]
      · show AV.ptr _ 0 = _
        congr 1
        omega
      · show AV.ptr _ 0 = _
        congr 1
        omega
      · show AV.fn _ [AV.ptr (sb.n + 0) 0, AV.ptr (sa.n + 0) 0] = _
        rw [show rp = sb.n + 0 by omega, show tp = sa.n + 0 by omega]
end Go.Proofs.YthjfncppiffnmaaDoor.Ra
