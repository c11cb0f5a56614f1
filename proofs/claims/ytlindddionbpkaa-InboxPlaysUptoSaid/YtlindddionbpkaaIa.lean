/- inbox, by names: New, Offer, Take, Len, Room, Close, Closed. -/
import Derived.Test.YtlindddionbpkaaRw
import Derived.Test.YtlindddionbpkaaRr
import Derived.Test.YtlindddionbpkaaSc
import Derived.Test.YtlindddionbpkaaSfc
namespace Go.Proofs.Ytlindddionbpkaa.Ra
open Go Go.RowKit
set_option linter.unusedVariables false
set_option linter.unusedSimpArgs false
set_option maxRecDepth 10000
abbrev INB : TypeId := 24
/-- An inbox that holds these messages; each lies in groups of its own. -/
def Que (st : St) (i cap : Nat) (cl : Bool) (L : Nat → Nat → Prop) (rows : List (List Int)) : Prop :=
  ∃ row, st.ch i = some ⟨cap, row, cl⟩ ∧ i < st.n ∧ row.length = rows.length ∧ ∀ j m, rows[j]? = some m → ∃ c, row[j]? = some c ∧ OwB st (L j) c m
theorem Que.keep {st st' : St} {i cap : Nat} {cl : Bool} {L : Nat → Nat → Prop} {G : Nat → Prop} {rows : List (List Int)} (h : Que st i cap cl L rows) (hk : Keeps G st st') (hi : ¬ G i) (hd : ∀ j g, j < rows.length → L j g → ¬ G g) : Que st' i cap cl L rows := by
  obtain ⟨row, h1, h2, h3, h4⟩ := h
  refine ⟨row, hk.ch i _ h1 h2 hi, Nat.lt_of_lt_of_le h2 hk.n, h3, fun j m hm => ?_⟩
  obtain ⟨c, k1, k2⟩ := h4 j m hm
  exact ⟨c, k1, k2.keep hk (hd j · (List.getElem?_eq_some_iff.1 hm).1)⟩
theorem Que.up {st st' : St} {i cap : Nat} {cl : Bool} {L : Nat → Nat → Prop} {rows : List (List Int)} (h : Que st i cap cl L rows) (hk : Ext st st') : Que st' i cap cl L rows := h.keep hk (fun h => h) (fun _ _ _ _ h => h)
theorem Que.lt {st : St} {i cap : Nat} {cl : Bool} {L : Nat → Nat → Prop} {rows : List (List Int)} (h : Que st i cap cl L rows) : i < st.n := by
  obtain ⟨row, h1, h2, h3, h4⟩ := h
  exact h2
theorem Que.mono {st : St} {i cap : Nat} {cl : Bool} {L L' : Nat → Nat → Prop} {rows : List (List Int)} (h : Que st i cap cl L rows) (hl : ∀ j g, j < rows.length → L j g → L' j g) : Que st i cap cl L' rows := by
  obtain ⟨row, h1, h2, h3, h4⟩ := h
  refine ⟨row, h1, h2, h3, fun j m hm => ?_⟩
  obtain ⟨c, k1, k2⟩ := h4 j m hm
  exact ⟨c, k1, k2.mono (hl j · (List.getElem?_eq_some_iff.1 hm).1)⟩
theorem Keeps.setCh {st : St} {i : Nat} (c : AInb) : Keeps (fun g => g = i) st (st.setCh i c) :=
  ⟨Nat.le_refl _, fun _ _ h _ => h, fun j cc h _ hj => by simp only [St.setCh]; rw [if_neg hj]; exact h⟩
theorem inew_ok {st : St} (hw : WF st) (n : Int) : ACalls Try.prog 6 [i64 n] st (fun r s => Ext st s ∧ ∃ p, r = .ptr p 0 ∧ st.n ≤ p ∧ Que s p (Qa.plc n) false (fun _ _ => False) []) :=
  acalls_orac rfl ⟨0, _, _, rfl, ⟨by simp [St.setCh, St.bump], fun _ _ h _ => h, fun j cc h hj _ => by simp only [St.setCh]; rw [if_neg (by omega)]; exact h⟩, st.n, rfl, Nat.le_refl _, [], by simp [St.setCh], by simp [St.setCh, St.bump], rfl, fun j m hm => by simp at hm⟩
theorem ilen_ok {st : St} {i cap : Nat} {cl : Bool} {L : Nat → Nat → Prop} {rows : List (List Int)} (h : Que st i cap cl L rows) {k : Int} (hk : (rows.length : Int) = k) : ACalls Try.prog 12 [.ptr i 0] st (fun r s => Ext st s ∧ r = i64 k) := by
  subst hk
  obtain ⟨row, h1, h2, h3, h4⟩ := h
  exact acalls_orac rfl ⟨0, i64 rows.length, st, by simp [orac, h1, h3, i64], Keeps.refl _ _, rfl⟩
theorem iclosed_ok {st : St} {i cap : Nat} {cl : Bool} {L : Nat → Nat → Prop} {rows : List (List Int)} (h : Que st i cap cl L rows) : ACalls Try.prog 21 [.ptr i 0] st (fun r s => Ext st s ∧ r = .pl (.bool cl)) := by
  obtain ⟨row, h1, h2, h3, h4⟩ := h
  exact acalls_orac rfl ⟨0, .pl (.bool cl), st, by simp [orac, h1], Keeps.refl _ _, rfl⟩
theorem iroom_ok {st : St} {i cap : Nat} {cl : Bool} {L : Nat → Nat → Prop} {rows : List (List Int)} (h : Que st i cap cl L rows) (hc : cap ≤ 64) (hr : rows.length ≤ cap) {k : Int} (hk : (if cl = true then 0 else (cap : Int) - rows.length) = k) : ACalls Try.prog 10 [.ptr i 0] st (fun r s => Ext st s ∧ r = i64 k) := by
  subst hk
  obtain ⟨row, h1, h2, h3, h4⟩ := h
  exact acalls_orac rfl ⟨0, i64 (if cl = true then 0 else (cap : Int) - rows.length), st, by simp [orac, h1, h3, i64, hc, hr], Keeps.refl _ _, rfl⟩
theorem iclose_ok {st : St} {i cap : Nat} {cl : Bool} {L : Nat → Nat → Prop} {rows : List (List Int)} (h : Que st i cap cl L rows) : ACalls Try.prog 13 [.ptr i 0] st (fun r s => Keeps (fun g => g = i) st s ∧ r = .tup [] ∧ Que s i cap true L rows) := by
  obtain ⟨row, h1, h2, h3, h4⟩ := h
  exact acalls_orac rfl ⟨0, .tup [], st.setCh i ⟨cap, row, true⟩, by simp [orac, h1], Keeps.setCh _, rfl, row, by simp [St.setCh], h2, h3, h4⟩
theorem itake_nil {st : St} {i cap : Nat} {cl : Bool} {L : Nat → Nat → Prop} (h : Que st i cap cl L []) : ACalls Try.prog 11 [.ptr i 0] st (fun r s => Ext st s ∧ r = .tup [.pl (.slice none 0 0), i64 (if cl = true then 260 else 183)]) := by
  obtain ⟨row, h1, h2, h3, h4⟩ := h
  have e : row = [] := List.eq_nil_of_length_eq_zero (by simpa using h3)
  subst e
  exact acalls_orac rfl ⟨0, .tup [.pl (.slice none 0 0), i64 (if cl = true then 260 else 183)], st, by simp [orac, h1, oTake, i64], Keeps.refl _ _, rfl⟩
theorem itake_ok {st : St} {i cap : Nat} {cl : Bool} {L : Nat → Nat → Prop} {m : List Int} {rows : List (List Int)} (h : Que st i cap cl L (m :: rows)) : ACalls Try.prog 11 [.ptr i 0] st (fun r s => Keeps (fun g => g = i) st s ∧ ∃ c, r = .tup [c, i64 0] ∧ OwB s (L 0) c m ∧ Que s i cap cl (fun j => L (j + 1)) rows) := by
  obtain ⟨row, h1, h2, h3, h4⟩ := h
  obtain ⟨c, k1, k2⟩ := h4 0 m rfl
  cases row with
  | nil => simp at h3
  | cons x row =>
  simp only [List.getElem?_cons_zero, Option.some.injEq] at k1
  subst k1
  exact acalls_orac rfl ⟨0, .tup [x, i64 0], st.setCh i ⟨cap, row, cl⟩, by simp [orac, h1, oTake, i64], Keeps.setCh _, x, rfl, k2, row, by simp [St.setCh], h2, by simpa using h3, fun j m hm => by
    obtain ⟨c, a, b⟩ := h4 (j + 1) m (by simpa using hm)
    exact ⟨c, by simpa using a, b⟩⟩
theorem ioffer_shut {st : St} {i cap : Nat} {L : Nat → Nat → Prop} {rows : List (List Int)} (h : Que st i cap true L rows) (v : AV) : ACalls Try.prog 8 [.ptr i 0, v] st (fun r s => Ext st s ∧ r = .tup [i64 0, i64 260]) := by
  obtain ⟨row, h1, h2, h3, h4⟩ := h
  exact acalls_orac rfl ⟨0, pairI 0 260, st, by simp [orac, h1, oOffer], Keeps.refl _ _, rfl⟩
/-- Groups of their own, message by message. -/
structure Apt (n lo k : Nat) (L : Nat → Nat → Prop) : Prop where
  rng : ∀ j g, j < k → L j g → lo ≤ g ∧ g < n
  one : ∀ i j g, i < k → j < k → L i g → L j g → i = j
theorem Apt.more {n m lo k : Nat} {L : Nat → Nat → Prop} (h : Apt n lo k L) (hm : n ≤ m) : Apt m lo k L := ⟨fun j g hj hl => by have := h.rng j g hj hl; omega, h.one⟩
/-- One message more. -/
def snocL (k a b : Nat) (L : Nat → Nat → Prop) : Nat → Nat → Prop := fun j g => (j < k ∧ L j g) ∨ (j = k ∧ a ≤ g ∧ g < b)
theorem Apt.snoc {n m lo k : Nat} {L : Nat → Nat → Prop} (h : Apt n lo k L) (hl : lo ≤ n) (hm : n ≤ m) : Apt m lo (k + 1) (snocL k n m L) := by
  refine ⟨fun j g hj hg => ?_, fun i j g hi hj h1 h2 => ?_⟩
  · rcases hg with ⟨a, b⟩ | ⟨a, b, c⟩
    · have := h.rng j g a b; omega
    · omega
  · rcases h1 with ⟨a, b⟩ | ⟨a, b, c⟩ <;> rcases h2 with ⟨a', b'⟩ | ⟨a', b', c'⟩
    · exact h.one i j g a a' b b'
    · have := h.rng i g a b; omega
    · have := h.rng j g a' b'; omega
    · omega
theorem offerGo_ok {i cap : Nat} {v : AV} {K : Nat → Prop} {ms : List (List Int)} (hKi : ¬ K i) (hlen : ∀ m ∈ ms, m.length ≤ 140737488355327) (hsl : ∃ a b es, v = .sl a b ms.length es) (lo : Nat) : ∀ (m k : Nat) (s : St) (rows : List (List Int)) (L : Nat → Nat → Prop), k + m = ms.length → WF s → RdE rowK s K v ms → Que s i cap false L rows → rows.length ≤ cap → Apt s.n lo rows.length L → lo ≤ s.n → i < lo →
    ∃ F r s', offerGo (acall Try.prog F) i ms.length v m k s = some (r, s') ∧ WF s' ∧ Keeps (fun g => g = i) s s' ∧ r = pairI ((k + min m (cap - rows.length) : Nat) : Int) (if m ≤ cap - rows.length then 0 else 261) ∧ ∃ L', Que s' i cap false L' (rows ++ (ms.drop k).take (cap - rows.length)) ∧ Apt s'.n lo (rows.length + min m (cap - rows.length)) L' ∧ (∀ j g, j < rows.length → (L' j g ↔ L j g)) ∧ (∀ j g, rows.length ≤ j → L' j g → s.n ≤ g)
  | 0, k, s, rows, L, hk, hw, hR, hQ, hrc, hA, hlo, hi => by
    refine ⟨0, _, _, rfl, hw, Keeps.refl _ _, ?_, fun j g => j < rows.length ∧ L j g, ?_, ?_, fun j g hj => by simp [hj], fun j g hj hl => by omega⟩
    · have : k = ms.length := by omega
      simp [pairI, this]
    · rw [List.drop_of_length_le (by omega), List.take_nil, List.append_nil]
      exact hQ.mono fun j g hj hl => ⟨hj, hl⟩
    · rw [Nat.zero_min, Nat.add_zero]
      exact ⟨fun j g hj hl => hA.rng j g hj hl.2, fun a b g ha hb h1 h2 => hA.one a b g ha hb h1.2 h2.2⟩
  | m + 1, k, s, rows, L, hk, hw, hR, hQ, hrc, hA, hlo, hi => by
    have hkl : k < ms.length := by omega
    obtain ⟨c, hae, hRc⟩ : ∃ c, aelem s v k = some c ∧ RdB s K c ms[k] := by
      rcases hR with ⟨h1, _⟩ | ⟨a, off, b, o, rfl, h2, h3, h4, h5⟩
      · subst h1; simp at hkl
      · obtain ⟨c, k1, k2⟩ := h5 k _ (List.getElem?_eq_getElem hkl)
        refine ⟨c, ?_, k2⟩
        simp only [aelem, h2, Option.bind_some]
        have e : rowK.s = 1 := rfl
        rw [e] at k1
        have := congrArg (fun q => q[0]?) k1
        simpa [List.getElem?_take] using this
    obtain ⟨F1, y, s1, hcl, hw1, hn1, hE1, hys, hO1⟩ := (clone_ok hw hRc (hlen _ (List.getElem_mem hkl))).wf hw
    have hQ1 := hQ.up hE1
    obtain ⟨row, h1, h2, h3, h4⟩ := hQ1
    have hdrop : ms.drop k = ms[k] :: ms.drop (k + 1) := List.drop_eq_getElem_cons hkl
    by_cases hroom : rows.length < cap
    · have hQ2 : Que (s1.setCh i ⟨cap, row ++ [y], false⟩) i cap false (snocL rows.length s.n s1.n L) (rows ++ [ms[k]]) := by
        refine ⟨row ++ [y], by simp [St.setCh], h2, by simp [h3], fun j mm hj => ?_⟩
        rw [List.getElem?_append] at hj
        split at hj
        · rename_i hlt
          obtain ⟨cc, k1, k2⟩ := h4 j mm hj
          exact ⟨cc, by rw [List.getElem?_append_left (by omega)]; exact k1, OwB.mono k2 fun g hg => .inl ⟨hlt, hg⟩⟩
        · rename_i hge
          have : j = rows.length := by
            have := (List.getElem?_eq_some_iff.1 hj).1
            simp at this
            omega
          subst this
          simp at hj
          subst hj
          refine ⟨y, by rw [List.getElem?_append_right (by omega)]; simp [h3], OwB.mono (OwB.lt hw1 hO1) fun g hg => .inr ⟨rfl, hg.1, hg.2⟩⟩
      obtain ⟨F2, r, s', ho, hw', hK', hr, L', hQ', hA', hL1, hL2⟩ := offerGo_ok hKi hlen hsl lo m (k + 1) (s1.setCh i ⟨cap, row ++ [y], false⟩) (rows ++ [ms[k]]) (snocL rows.length s.n s1.n L) (by omega) hw1 ((hR.up hE1).keep (Keeps.setCh _) (fun g hg e => hKi (by rw [← e]; exact hg))) hQ2 (by simp; omega) (by rw [List.length_append]; exact hA.snoc hlo hE1.n) (by have := hE1.n; show lo ≤ s1.n; omega) hi
      have hl2 : (rows ++ [ms[k]]).length = rows.length + 1 := by simp
      rw [hl2] at hr hQ' hA' hL1 hL2
      refine ⟨max F1 F2, r, s', ?_, hw', (Keeps.mono (G := fun _ => False) hE1 (fun _ h => h.elim)).trans ((Keeps.setCh _).trans hK'), ?_, L', ?_, ?_, fun j g hj => ?_, fun j g hj hg => ?_⟩
      · rw [offerGo, hae]
        simp only [acall_mono F1 (max F1 F2) (Nat.le_max_left _ _) _ _ _ _ hcl, h1, h3, hroom, Bool.false_eq_true, if_false, if_true]
        exact offerGo_mono (fun f xs st r h => acall_mono F2 (max F1 F2) (Nat.le_max_right _ _) f xs st r h) _ _ _ ho
      · rw [hr]
        have e1 : k + 1 + min m (cap - (rows.length + 1)) = k + min (m + 1) (cap - rows.length) := by omega
        rw [e1]
        by_cases hc : m ≤ cap - (rows.length + 1)
        · rw [if_pos hc, if_pos (by omega)]
        · rw [if_neg hc, if_neg (by omega)]
      · have e1 : rows ++ (ms.drop k).take (cap - rows.length) = rows ++ [ms[k]] ++ (ms.drop (k + 1)).take (cap - (rows.length + 1)) := by
          rw [hdrop]
          have : cap - rows.length = (cap - (rows.length + 1)) + 1 := by omega
          rw [this, List.take_succ_cons, List.append_assoc]
          rfl
        rw [e1]
        exact hQ'
      · have e1 : rows.length + 1 + min m (cap - (rows.length + 1)) = rows.length + min (m + 1) (cap - rows.length) := by omega
        rw [← e1]
        exact hA'
      · rw [hL1 j g (by omega)]
        constructor
        · intro h
          rcases h with ⟨_, h⟩ | ⟨h, _⟩
          · exact h
          · omega
        · intro h
          exact .inl ⟨hj, h⟩
      · by_cases e : j = rows.length
        · have := (hL1 j g (by omega)).1 hg
          rcases this with ⟨h, _⟩ | ⟨_, h, _⟩
          · omega
          · exact h
        · have := hL2 j g (by omega) hg
          have h5 : (s1.setCh i ⟨cap, row ++ [y], false⟩).n = s1.n := rfl
          rw [h5] at this
          omega
    · refine ⟨F1, _, s1, by rw [offerGo, hae]; simp only [hcl, h1, h3, hroom, Bool.false_eq_true, if_false]; rfl, hw1, Keeps.mono (G := fun _ => False) hE1 (fun _ h => h.elim), ?_, fun j g => j < rows.length ∧ L j g, ?_, ?_, fun j g hj => by simp [hj], fun j g hj hl => by omega⟩
      · have : cap - rows.length = 0 := by omega
        rw [this]
        simp [pairI]
      · have : cap - rows.length = 0 := by omega
        rw [this, List.take_zero, List.append_nil]
        exact (hQ.up hE1).mono fun j g hj hl => ⟨hj, hl⟩
      · have : cap - rows.length = 0 := by omega
        rw [this, Nat.min_zero, Nat.add_zero]
        exact ⟨fun j g hj hl => by have := hA.rng j g hj hl.2; omega, fun a b g ha hb h1 h2 => hA.one a b g ha hb h1.2 h2.2⟩
theorem ioffer_ok {st : St} (hw : WF st) {i cap lo : Nat} {L : Nat → Nat → Prop} {rows ms : List (List Int)} {v : AV} {K : Nat → Prop} (hQ : Que st i cap false L rows) (hR : RdE rowK st K v ms) (hsl : ∃ a b es, v = .sl a b ms.length es) (hKi : ¬ K i) (hlen : ∀ m ∈ ms, m.length ≤ 140737488355327) (hrc : rows.length ≤ cap) (hA : Apt st.n lo rows.length L) (hlo : lo ≤ st.n) (hi : i < lo) :
    ACalls Try.prog 8 [.ptr i 0, v] st (fun r s => Keeps (fun g => g = i) st s ∧ r = .tup [i64 (min ms.length (cap - rows.length) : Nat), i64 (if ms.length ≤ cap - rows.length then 0 else 261)] ∧ ∃ L', Que s i cap false L' (rows ++ ms.take (cap - rows.length)) ∧ Apt s.n lo (rows.length + min ms.length (cap - rows.length)) L' ∧ (∀ j g, j < rows.length → (L' j g ↔ L j g)) ∧ (∀ j g, rows.length ≤ j → L' j g → st.n ≤ g)) := by
  obtain ⟨F, r, s', h1, h2, h3, h4, L', h5, h6, h7, h8⟩ := offerGo_ok hKi hlen hsl lo ms.length 0 st rows L (by omega) hw hR hQ hrc hA hlo hi
  obtain ⟨row, k1, k2, k3, k4⟩ := hQ
  obtain ⟨a, b, es, rfl⟩ := hsl
  rw [Nat.zero_add] at h4
  rw [List.drop_zero] at h5
  exact acalls_orac rfl ⟨F, r, s', by simp [orac, k1, oOffer]; exact h1, h3, h4, L', h5, h6, h7, h8⟩
/-- One message; there is room. -/
theorem ioffer_one {st : St} (hw : WF st) {i cap lo : Nat} {L : Nat → Nat → Prop} {rows : List (List Int)} {m : List Int} {v : AV} {K : Nat → Prop} (hQ : Que st i cap false L rows) (hR : RdE rowK st K v [m]) (hsl : ∃ a b es, v = .sl a b 1 es) (hKi : ¬ K i) (hlen : m.length ≤ 140737488355327) (hrc : rows.length < cap) (hA : Apt st.n lo rows.length L) (hlo : lo ≤ st.n) (hi : i < lo) :
    ACalls Try.prog 8 [.ptr i 0, v] st (fun r s => Keeps (fun g => g = i) st s ∧ r = .tup [i64 1, i64 0] ∧ ∃ L', Que s i cap false L' (rows ++ [m]) ∧ Apt s.n lo (rows.length + 1) L' ∧ (∀ j g, j < rows.length → (L' j g ↔ L j g)) ∧ (∀ j g, rows.length ≤ j → L' j g → st.n ≤ g)) := by
  refine (ioffer_ok hw hQ hR hsl hKi (by simpa using hlen) (by omega) hA hlo hi).mono fun r s ⟨h1, h2, L', h3, h4, h5⟩ => ?_
  have e1 : min [m].length (cap - rows.length) = 1 := by simp; omega
  have e2 : [m].length ≤ cap - rows.length := by simp; omega
  have e3 : [m].take (cap - rows.length) = [m] := List.take_of_length_le e2
  rw [e1, if_pos e2] at h2
  rw [e3] at h3
  rw [e1] at h4
  exact ⟨h1, h2, L', h3, h4, h5⟩
/-- No room. -/
theorem ioffer_full {st : St} (hw : WF st) {i cap lo : Nat} {L : Nat → Nat → Prop} {rows ms : List (List Int)} {v : AV} {K : Nat → Prop} (hQ : Que st i cap false L rows) (hR : RdE rowK st K v ms) (hsl : ∃ a b es, v = .sl a b ms.length es) (hKi : ¬ K i) (hlen : ∀ m ∈ ms, m.length ≤ 140737488355327) (hms : 0 < ms.length) (hrc : rows.length = cap) (hA : Apt st.n lo rows.length L) (hlo : lo ≤ st.n) (hi : i < lo) :
    ACalls Try.prog 8 [.ptr i 0, v] st (fun r s => Keeps (fun g => g = i) st s ∧ r = .tup [i64 0, i64 261] ∧ ∃ L', Que s i cap false L' rows ∧ Apt s.n lo rows.length L' ∧ (∀ j g, j < rows.length → (L' j g ↔ L j g))) := by
  refine (ioffer_ok hw hQ hR hsl hKi hlen (by omega) hA hlo hi).mono fun r s ⟨h1, h2, L', h3, h4, h5, _⟩ => ?_
  have e1 : cap - rows.length = 0 := by omega
  rw [e1, Nat.min_zero, if_neg (by omega)] at h2
  rw [e1, List.take_zero, List.append_nil] at h3
  rw [e1, Nat.min_zero, Nat.add_zero] at h4
  exact ⟨h1, h2, L', h3, h4, h5⟩
end Go.Proofs.Ytlindddionbpkaa.Ra
