/- What the operations come to in the machine: append. -/
import Derived.Test.YtjpgpkkbmoehdaaDoorRf
namespace Go.Proofs.YtjpgpkkbmoehdaaDoor.Ra
open Go Go.RowKit
set_option linter.unusedVariables false
set_option linter.unusedSimpArgs false
section
variable {P : Program} {w0 : World} {σ : Ren} {st : St} {w : World}
/-- What is put behind is read from where it lies. -/
theorem sim_src (h : Sim P w0 σ st w) {size m : Nat} {x : AV} {v : Value} {news : List AV} (hv : VR σ x v) (ha : asrc P st size x = some (news, m)) :
    ∃ (xa : Option Addr) (c : Nat) (vs : List Value), v = .slice xa m c ∧ CR σ news vs ∧ vs.length = m * size ∧ (Builtin.firstCells size m v).run P w = .ok vs.toArray w ∧ (Builtin.firstCells size m v).run P w.drew = .ok vs.toArray w.drew := by
  unfold asrc at ha
  split at ha
  · rename_i j off m' es
    split at ha
    · rename_i hm0
      subst hm0
      simp only [Option.some.injEq, Prod.mk.injEq] at ha
      obtain ⟨rfl, rfl⟩ := ha
      cases hv with
      | sl hi hc hm hoff hl => exact ⟨_, _, [], rfl, CR.nil σ, by simp, by simp [Builtin.firstCells, loadCells, loadCellsFrom], by simp [Builtin.firstCells, loadCells, loadCellsFrom]⟩
    split at ha
    case h_2 => cases ha
    rename_i o ho
    split at ha
    case isFalse => cases ha
    rename_i hlen
    simp only [Option.some.injEq, Prod.mk.injEq] at ha
    obtain ⟨rfl, rfl⟩ := ha
    cases hv with
    | sl hi hc hm hoff hl =>
    rename_i cap q l
    obtain ⟨vs, hvl, hcr, hcell⟩ := h.range ho hi hlen
    have hc2 : ∀ j u, vs[j]? = some u → w.cell? ((⟨l.blk, q, none⟩ : Addr).add j) = some u := by
      intro j u hu
      have hj : j < vs.length := (List.getElem?_eq_some_iff.1 hu).1
      have : cap ≠ 0 := by
        intro e
        have : m' = 0 := by omega
        subst this
        simp at hvl
        rw [hvl] at hj
        simp at hj
      have hq := hoff.resolve_left this
      rw [add_at, hq]
      exact hcell j u hu
    refine ⟨_, cap, vs, rfl, hcr, hvl, ?_, ?_⟩
    · exact run_firstCells_some (P := P) w size m' _ m' cap vs hvl hc2
    · exact run_firstCells_some (P := P) w.drew size m' _ m' cap vs hvl hc2
  · simp only [Option.some.injEq, Prod.mk.injEq] at ha
    obtain ⟨rfl, rfl⟩ := ha
    cases hv
    rename_i q c
    exact ⟨q, c, [], rfl, CR.nil σ, by simp, by cases q <;> simp [Builtin.firstCells, loadCells, loadCellsFrom], by cases q <;> simp [Builtin.firstCells, loadCells, loadCellsFrom]⟩
  · cases ha
theorem append_room {t ty e : TypeId} {i : TypeInfo} (ht : P.underlying t = some (.slice e)) (hi : P.info? e = some i) {g o sLen sCap m c : Nat} {xa : Option Addr} {vs : List Value} {cur : Array Value} (hg : w.heap[g]? = some (.cells cur e (0, 0)))
    (hf : (Builtin.firstCells i.size m (.slice xa m c)).run P w = .ok vs.toArray w) (h1 : ∀ u ∈ vs, u.oneCell' = true) (hroom : sLen + m ≤ sCap) (hfit : o + sLen * i.size + vs.length ≤ cur.size) :
    (Builtin.append_ #[t, t] ty #[.slice (some ⟨g, o, none⟩) sLen sCap, .slice xa m c]).run P w =
      .ok (.slice (some ⟨g, o, none⟩) (sLen + m) sCap) (w.setRow g (cur.toList.take (o + sLen * i.size) ++ vs ++ cur.toList.drop (o + sLen * i.size + vs.length)).toArray) := by
  have hst := run_storeCells_at P g (o + sLen * i.size) e vs 0 cur w hg (by simpa using hfit) h1
  simp only [Nat.add_zero] at hst
  simp [Builtin.append_, run_underlying ht, sizeOf, typeInfo, hi, Builtin.lenOf, hroom, hf, add_at, hst]
theorem append_grow {t ty e : TypeId} {i : TypeInfo} {z : Value} (ht : P.underlying t = some (.slice e)) (hi : P.info? e = some i) (hz : i.zero = some z) {ba xa : Option Addr} {sLen sCap m c : Nat} {us vs : List Value}
    (hs : (Builtin.firstCells i.size sLen (.slice ba sLen sCap)).run P w.drew = .ok us.toArray w.drew) (hf : (Builtin.firstCells i.size m (.slice xa m c)).run P w.drew = .ok vs.toArray w.drew)
    (hg : sCap < sLen + m) (h63 : ((sLen + m : Nat) : Int) ≤ 9223372036854775807) (hfit : Builtin.nextslicecap (sLen + m) sCap * i.bytes ≤ 281474976710656) :
    (Builtin.append_ #[t, t] ty #[.slice ba sLen sCap, .slice xa m c]).run P w =
      .ok (.slice (some ⟨w.heap.size, 0, none⟩) (sLen + m) (grownCap w (sLen + m) sCap e))
        (w.drew.alloc (.cells (us.toArray ++ vs.toArray ++ Builtin.zeroCells z.cells (grownCap w (sLen + m) sCap e - (sLen + m))) e)) := by
  have hn : ¬ (sLen + m ≤ sCap) := by omega
  have h63' : ¬ (9223372036854775807 < ((sLen : Int) + (m : Int))) := by omega
  have h48' : ¬ (281474976710656 < Builtin.nextslicecap (sLen + m) sCap * i.bytes) := by omega
  simp [Builtin.append_, run_underlying ht, sizeOf, typeInfo, zeroValue, hi, hz, Builtin.lenOf, hn, h63', h48', Question.forced, newRow, grownCap]
  rw [hs]
  simp only [Result.andThen_ok]
  rw [hf]
  simp only [Result.andThen_ok, World.size_drew, Result.ok.injEq, true_and]
  congr 2
  apply Array.toList_inj.1
  simp
theorem sim_grown (h : Sim P w0 σ st w) {id : Nat} (hid : σ id = none) (hn : id < st.n) {t ty e : TypeId} {i : TypeInfo} {z : Value} (ht : P.underlying t = some (.slice e)) (hi : P.info? e = some i) (hz : i.zero = some z) (hzs : z.cells.size = i.size) (hs0 : 0 < i.size)
    {ba xa : Option Addr} {sLen sCap m c : Nat} {us vs : List Value} {xs : List AV} (hcr : CR σ xs (us ++ vs)) (hus : us.length = sLen * i.size) (hvs : vs.length = m * i.size)
    (hs : (Builtin.firstCells i.size sLen (.slice ba sLen sCap)).run P w.drew = .ok us.toArray w.drew) (hf : (Builtin.firstCells i.size m (.slice xa m c)).run P w.drew = .ok vs.toArray w.drew)
    (hg : sCap < sLen + m) (hb : (sLen + m) * i.bytes ≤ 140737488355328) (hm : sLen + m ≤ maxLen) (gr : Nat) :
    ∃ r w' σ', (Builtin.append_ #[t, t] ty #[.slice ba sLen sCap, .slice xa m c]).run P w = .ok r w' ∧ New σ σ' id ∧ Sim P w0 σ' (st.put id ⟨xs, e, true, gr⟩) w' ∧ VR σ' (.sl id 0 (sLen + m) i.size) r := by
  have hr := append_grow (P := P) (w := w) (ty := ty) ht hi hz hs hf hg (by simp only [maxLen] at hm; omega) (growslice_fits hg hb)
  have hge := grownCap_ge w (sLen + m) sCap e
  have hcm := grownCap_le_maxLen w (sLen + m) sCap e hm
  have hlen : xs.length = (sLen + m) * i.size := by rw [hcr.1, List.length_append, hus, hvs, Nat.add_mul]
  have hcs : (us.toArray ++ vs.toArray ++ Builtin.zeroCells z.cells (grownCap w (sLen + m) sCap e - (sLen + m))).size = grownCap w (sLen + m) sCap e * i.size := by
    simp only [Array.size_append, List.size_toArray, size_zeroCells, hzs, hus, hvs, ← Nat.add_mul]
    congr 1
    omega
  have hN := h.drew.new hid hn (e := e) (s := i.size) (by rw [hi]; rfl) (xs := xs) (c := us.toArray ++ vs.toArray ++ Builtin.zeroCells z.cells (grownCap w (sLen + m) sCap e - (sLen + m))) (by
    have : (us.toArray ++ vs.toArray ++ Builtin.zeroCells z.cells (grownCap w (sLen + m) sCap e - (sLen + m))).toList.take xs.length = us ++ vs := by
      simp only [Array.toList_append, List.append_assoc]
      rw [← List.append_assoc, show xs.length = (us ++ vs).length from hcr.1]
      exact List.take_left
    rw [this]
    exact hcr) (0, 0) true gr (fun _ => rfl)
  refine ⟨_, _, _, hr, New.set hid _, hN, ?_⟩
  refine .sl (σ := σ.set id _) (l := ⟨w.heap.size, 0, _, i.size, true⟩) (Ren.set_at _ _ _) hge hcm (.inr rfl) (fun _ => ⟨rfl, hs0, Nat.le_of_eq ?_⟩)
  simp only [Nat.zero_add]
  exact hcs.symm
theorem sim_append (h : Sim P w0 σ st w) {id : Nat} (hid : σ id = none) (hn : id < st.n) {t ty : TypeId} {s x y : AV} {sv xv : Value} {st' : St} (hs : VR σ s sv) (hx : VR σ x xv) (ha : aappend P st id t s x = some (y, st')) :
    ∃ r w' σ', (Builtin.append_ #[t, t] ty #[sv, xv]).run P w = .ok r w' ∧ New σ σ' id ∧ Sim P w0 σ' st' w' ∧ VR σ' y r := by
  unfold aappend at ha
  split at ha
  case h_2 => cases ha
  rename_i e ht
  split at ha
  case h_2 => cases ha
  rename_i i hi
  split at ha
  case h_2 => cases ha
  rename_i news m hsrc
  obtain ⟨xa, c, vs, rfl, hcr, hvl, hf1, hf2⟩ := sim_src h hx hsrc
  split at ha
  · rename_i j off len es
    split at ha
    case h_2 => cases ha
    rename_i o ho
    split at ha
    case isFalse => cases ha
    rename_i hcond
    obtain ⟨hown, hoe, hs0, hz, hoff, hb, hm, hone⟩ := hcond
    obtain ⟨z, hz1, hzs⟩ := Option.map_eq_some_iff.1 hz
    simp only [Option.some.injEq, Prod.mk.injEq] at ha
    obtain ⟨rfl, rfl⟩ := ha
    cases hs with
    | sl hj hc hmc hq hl =>
    rename_i cap q l
    obtain ⟨l2, hl2, h1, cur, e1, fz, h2, h3, h4⟩ := h.obj j o ho
    rw [hj] at hl2
    cases hl2
    have hlo : l.own = true := by rw [← h1]; exact hown
    obtain ⟨rfl, g2, g3, g4, g5⟩ := h4 hlo
    obtain ⟨rfl, es0, elim⟩ := hl hlo
    have hee : l.esz = i.size := by
      rw [g2, hoe, hi] at g4
      simpa using g4.symm
    have hone2 := hcr.ones hone
    by_cases hroom : len + m ≤ cap
    · have hqq : q = l.base + off ∨ (cap = 0) := hq.symm
      have hfit : q + len * i.size + vs.length ≤ cur.size ∨ cap = 0 := by
        rcases hqq with hqq | hqq
        · refine .inl ?_
          rw [hqq, hvl, g3]
          have e5 : len * i.size + m * i.size ≤ cap * i.size := by rw [← Nat.add_mul]; exact Nat.mul_le_mul_right _ hroom
          rw [hee] at elim
          omega
        · exact .inr hqq
      have e6 : e1 = e := g2.trans hoe
      by_cases hc0 : cap = 0
      · obtain rfl : len = 0 := by omega
        obtain rfl : m = 0 := by omega
        have hv0 : vs = [] := List.eq_nil_of_length_eq_zero (by simpa using hvl)
        subst hv0
        have hn0 : news = [] := List.eq_nil_of_length_eq_zero (by simpa using hcr.1)
        subst hn0
        subst hc0
        have hself := setRow_self w l.blk cur e1 (0, 0) h2
        have hout : ∃ w', (Builtin.append_ #[t, t] ty #[.slice (some ⟨l.blk, q, none⟩) 0 0, .slice xa 0 c]).run P w = .ok (.slice (some ⟨l.blk, q, none⟩) 0 0) w' ∧ w' = w := by
          refine ⟨w, ?_, rfl⟩
          simp [Builtin.append_, run_underlying ht, sizeOf, typeInfo, hi, Builtin.lenOf, hf1, storeCells]
        obtain ⟨w', hrun, rfl⟩ := hout
        by_cases hof : off = 0
        · subst hof
          rw [if_pos rfl]
          have hE := h.extend ho hj hlo h2 hid hn (xs := o.cells ++ []) (c := cur) (off := 0 * i.size) (n := 0 * i.size) rfl (by rw [List.append_nil]; exact g5) (fun _ _ => rfl) (by rw [List.append_nil]; exact h3)
          rw [hself] at hE
          rw [hoe] at hE
          refine ⟨_, w', _, hrun, New.set hid _, hE, .sl (l := ⟨l.blk, l.base, l.lim, l.esz, true⟩) (Ren.set_at _ _ _) (Nat.le_refl _) (Nat.zero_le _) (.inl rfl) (fun _ => ⟨hee.symm, hs0, ?_⟩)⟩
          show l.base + 0 + 0 * i.size ≤ l.lim
          rw [← g3]
          omega
        · rw [if_neg hof]
          have hE := h.extendCut ho hj hlo h2 hid hn (xs := o.cells.drop off ++ []) (c := cur) (off := off) id rfl (by simp only [List.append_nil, List.length_drop]; omega) (by
            rw [List.append_nil]
            have := (h3.drop off)
            rw [List.drop_take, List.drop_drop] at this
            rw [List.length_drop]
            exact this)
          rw [hself] at hE
          rw [hoe] at hE
          refine ⟨_, w', _, hrun, New.set hid _, hE, .sl (l := ⟨l.blk, l.base + off, l.lim, l.esz, true⟩) (Ren.set_at _ _ _) (Nat.le_refl _) (Nat.zero_le _) (.inl rfl) (fun _ => ⟨hee.symm, hs0, ?_⟩)⟩
          show l.base + off + 0 + 0 * i.size ≤ l.lim
          rw [← g3]
          omega
      · have hqq2 := hq.resolve_left hc0
        subst hqq2
        have hfit2 := hfit.resolve_right hc0
        have hr := append_room (P := P) (w := w) (ty := ty) (sCap := cap) ht hi (by rw [← e6]; exact h2) hf1 hone2 hroom hfit2
        have hcsz : (cur.toList.take (l.base + off + len * i.size) ++ vs ++ cur.toList.drop (l.base + off + len * i.size + vs.length)).toArray.size = cur.size := by
          simp only [List.size_toArray, List.length_append, List.length_take, List.length_drop, Array.length_toList]
          omega
        have hol : (o.cells.drop off).length = len * i.size := by rw [List.length_drop]; omega
        have hcc : CR σ (o.cells.drop off ++ news) (((cur.toList.take (l.base + off + len * i.size) ++ vs ++ cur.toList.drop (l.base + off + len * i.size + vs.length)).toArray.toList.drop (l.base + off)).take (o.cells.drop off ++ news).length) := by
          have hA : CR σ (o.cells.drop off) ((cur.toList.drop (l.base + off)).take (len * i.size)) := by
            have := h3.drop off
            rw [List.drop_take, List.drop_drop] at this
            rw [show o.cells.length - off = len * i.size by omega] at this
            exact this
          have := hA.append hcr
          have e7 : ((cur.toList.take (l.base + off + len * i.size) ++ vs ++ cur.toList.drop (l.base + off + len * i.size + vs.length)).toArray.toList.drop (l.base + off)).take (o.cells.drop off ++ news).length = (cur.toList.drop (l.base + off)).take (len * i.size) ++ vs := by
            rw [List.length_append, hol, hcr.1]
            have hAl : (cur.toList.take (l.base + off + len * i.size)).length = l.base + off + len * i.size := by rw [List.length_take, Array.length_toList]; omega
            show (List.drop (l.base + off) (cur.toList.take (l.base + off + len * i.size) ++ vs ++ cur.toList.drop (l.base + off + len * i.size + vs.length))).take (len * i.size + vs.length) = _
            rw [List.append_assoc, List.drop_append_of_le_length (by omega), ← List.append_assoc]
            have hB : (List.drop (l.base + off) (cur.toList.take (l.base + off + len * i.size))) = (cur.toList.drop (l.base + off)).take (len * i.size) := by
              rw [List.drop_take]
              congr 1
              omega
            rw [hB]
            have hC : ((cur.toList.drop (l.base + off)).take (len * i.size) ++ vs).length = len * i.size + vs.length := by
              rw [List.length_append, List.length_take, List.length_drop, Array.length_toList]
              omega
            rw [← hC]
            exact List.take_left
          rw [e7]
          exact this
        have hfitl : l.base + off + (o.cells.drop off ++ news).length ≤ (cur.toList.take (l.base + off + len * i.size) ++ vs ++ cur.toList.drop (l.base + off + len * i.size + vs.length)).toArray.size := by
          rw [hcsz, List.length_append, hol, hcr.1]
          omega
        rw [hee] at elim
        by_cases hof : off = 0
        · subst hof
          rw [if_pos rfl]
          simp only [Nat.add_zero, List.drop_zero] at hcc hfitl hr elim hcsz
          have hE := h.extend ho hj hlo h2 hid hn (xs := o.cells ++ news) (c := (cur.toList.take (l.base + len * i.size) ++ vs ++ cur.toList.drop (l.base + len * i.size + vs.length)).toArray) (off := len * i.size) (n := m * i.size) hcsz hfitl (by
            intro p hp
            have hAl : (cur.toList.take (l.base + len * i.size)).length = l.base + len * i.size := by rw [List.length_take, Array.length_toList]; omega
            simp only [List.getElem?_toArray]
            rcases hp with hp | hp
            · rw [List.append_assoc, List.getElem?_append_left (by omega), List.getElem?_take, if_pos hp, Array.getElem?_toList]
            · rw [List.getElem?_append_right (by rw [List.length_append]; omega), List.getElem?_drop, List.length_append, hAl, Array.getElem?_toList]
              congr 1
              omega) hcc
          rw [hoe] at hE
          refine ⟨_, _, _, hr, New.set hid _, hE, .sl (l := ⟨l.blk, l.base, l.lim, l.esz, true⟩) (Ren.set_at _ _ _) hroom hmc (.inr rfl) (fun _ => ⟨hee.symm, hs0, elim⟩)⟩
        · rw [if_neg hof]
          have hE := h.extendCut ho hj hlo h2 hid hn (xs := o.cells.drop off ++ news) (c := (cur.toList.take (l.base + off + len * i.size) ++ vs ++ cur.toList.drop (l.base + off + len * i.size + vs.length)).toArray) (off := off) id hcsz hfitl hcc
          rw [hoe] at hE
          refine ⟨_, _, _, hr, New.set hid _, hE, .sl (l := ⟨l.blk, l.base + off, l.lim, l.esz, true⟩) (Ren.set_at _ _ _) hroom hmc (.inr (Nat.add_zero _).symm) (fun _ => ⟨hee.symm, hs0, ?_⟩)⟩
          show l.base + off + 0 + cap * i.size ≤ l.lim
          omega
    · obtain ⟨us, hul, hucr, hucell⟩ := h.range ho hj (off := off) (n := len * i.size) (by omega)
      have hfs : (Builtin.firstCells i.size len (.slice (some ⟨l.blk, q, none⟩) len cap)).run P w.drew = .ok us.toArray w.drew := by
        refine run_firstCells_some (P := P) w.drew i.size len _ len cap us hul (fun k u hu => ?_)
        have hk : k < us.length := (List.getElem?_eq_some_iff.1 hu).1
        have : cap ≠ 0 := by
          intro e5
          obtain rfl : len = 0 := by omega
          simp at hul
          rw [hul] at hk
          simp at hk
        rw [add_at, hq.resolve_left this]
        exact hucell k u hu
      have hdr : (o.cells.drop off).take (len * i.size) = o.cells.drop off := List.take_of_length_le (by rw [List.length_drop]; omega)
      rw [hdr] at hucr
      by_cases hof : off = 0
      · subst hof
        rw [if_pos rfl]
        rw [List.drop_zero] at hucr
        exact sim_grown (h.touched o.grp (len * i.size) (m * i.size)) hid hn (ty := ty) ht hi hz1 hzs hs0 (hucr.append hcr) hul hvl hfs hf2 (by omega) hb hm o.grp
      · rw [if_neg hof]
        exact sim_grown (h.kill o.grp) hid hn (ty := ty) ht hi hz1 hzs hs0 (hucr.append hcr) hul hvl hfs hf2 (by omega) hb hm id
  · split at ha
    · rename_i hm0
      subst hm0
      simp only [Option.some.injEq, Prod.mk.injEq] at ha
      obtain ⟨rfl, rfl⟩ := ha
      cases hs
      have hv0 : vs = [] := List.eq_nil_of_length_eq_zero (by simpa using hvl)
      subst hv0
      refine ⟨.slice none 0 0, w, σ, ?_, New.refl σ id, h, .pl _⟩
      simp [Builtin.append_, run_underlying ht, sizeOf, typeInfo, hi, Builtin.lenOf, hf1, storeCells]
    · rename_i hm0
      split at ha
      case isFalse => cases ha
      rename_i hcond
      obtain ⟨hs0, hz, hb, hm, hone⟩ := hcond
      obtain ⟨z, hz1, hzs⟩ := Option.map_eq_some_iff.1 hz
      simp only [Option.some.injEq, Prod.mk.injEq] at ha
      obtain ⟨rfl, rfl⟩ := ha
      cases hs
      have := sim_grown h hid hn (ty := ty) ht hi hz1 hzs hs0 (ba := none) (sLen := 0) (sCap := 0) (us := []) (xs := news) (by simpa using hcr) (by simp) hvl rfl hf2 (by omega) (by simpa using hb) (by simpa using hm) id
      simpa using this
  · cases ha
end
end Go.Proofs.YtjpgpkkbmoehdaaDoor.Ra
