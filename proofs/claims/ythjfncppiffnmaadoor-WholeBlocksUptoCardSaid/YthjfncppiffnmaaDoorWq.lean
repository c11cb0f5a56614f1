/- press: plain laws: the tokens lay the bytes out; what was packed comes back. -/
import Derived.Test.YthjfncppiffnmaaDoorWp
import Derived.Test.YthjfncppiffnmaaDoorTm
namespace Go.Proofs.YthjfncppiffnmaaDoor.Ra
open Go Go.RowKit Pn Vn
set_option linter.unusedVariables false
set_option linter.unusedSimpArgs false
/-- Tokens that lay b out from its beginning to a place; the length of a literal at their end. -/
inductive LO (b : List Int) (d : Int) : List Tok → Nat → Option Nat → Prop
  | nil : LO b d [] 0 none
  | lit {ts : List Tok} {at_ : Nat} {p : Option Nat} {l : List Int} (h : LO b d ts at_ p) (h1 : 1 ≤ l.length) (h2 : l.length ≤ 128) (h3 : at_ + l.length ≤ b.length) (h4 : l = (b.drop at_).take l.length) (h5 : p = none ∨ p = some 128) : LO b d (ts ++ [(l, 0, 0)]) (at_ + l.length) (some l.length)
  | cop {ts : List Tok} {at_ : Nat} {p : Option Nat} {dist n : Nat} (h : LO b d ts at_ p) (h1 : 1 ≤ dist) (h2 : dist ≤ 4096) (h3 : dist ≤ at_) (h4 : 4 ≤ n) (h5 : n ≤ 131) (h6 : at_ + n ≤ b.length) (h7 : 1 ≤ d) (h8 : ∀ k, k < n → b.getD (at_ - dist + k) 0 = b.getD (at_ + k) 0) (h9 : n < 131 → at_ + n < b.length → b.getD (at_ - dist + n) 0 ≠ b.getD (at_ + n) 0) : LO b d (ts ++ [([], (dist : Int), (n : Int))]) (at_ + n) none
theorem lo_pcs (b : List Int) (d : Int) : ∀ (m : Nat) (l : List Int), l.length ≤ m → ∀ (ts : List Tok) (at_ : Nat) (p : Option Nat), LO b d ts at_ p → (p = none ∨ p = some 128) → at_ + l.length ≤ b.length → l = (b.drop at_).take l.length → ∃ p', LO b d (ts ++ pcs l) (at_ + l.length) p' := by
  intro m
  induction m using Nat.strongRecOn with
  | _ m ih =>
    intro l hm ts at_ p h hp hb he
    by_cases hl : l = []
    · subst hl
      exact ⟨p, by rw [pcs_nil, List.append_nil]; exact h⟩
    · have hlen : 0 < l.length := List.length_pos_iff.2 hl
      rw [pcs_step l hl]
      have ht : (l.take 128).length = min 128 l.length := List.length_take
      have hd : (l.drop 128).length = l.length - 128 := List.length_drop
      have he1 : l.take 128 = (b.drop at_).take (l.take 128).length := by
        conv => lhs; rw [he]
        rw [List.take_take, ht]
      have h1 := LO.lit (l := l.take 128) h (by omega) (by omega) (by omega) he1 hp
      by_cases h128 : 128 < l.length
      · obtain ⟨p', h2⟩ := ih (l.length - 128) (by omega) (l.drop 128) (by omega) _ _ _ h1 (.inr (by rw [ht, Nat.min_eq_left (by omega)])) (by omega) (by
          conv => lhs; rw [he]
          rw [List.drop_take, List.drop_drop, hd, ht, Nat.min_eq_left (by omega)])
        refine ⟨p', ?_⟩
        rw [List.append_assoc] at h2
        have e : at_ + (l.take 128).length + (l.drop 128).length = at_ + l.length := by omega
        rw [e] at h2
        exact h2
      · rw [List.drop_of_length_le (by omega), pcs_nil]
        have e : at_ + (l.take 128).length = at_ + l.length := by omega
        rw [e] at h1
        exact ⟨_, h1⟩
theorem lo_grd (b : List Int) (d : Int) : ∀ (f from_ i : Nat) (acc : List Tok), LO b d acc from_ none → from_ ≤ i → i ≤ b.length → b.length ≤ f + i → ∃ p, LO b d (grd b d f from_ i acc) b.length p := by
  intro f
  have run : ∀ (from_ i : Nat) (acc : List Tok), LO b d acc from_ none → from_ ≤ i → i ≤ b.length → ∃ p, LO b d (acc ++ pcs ((b.drop from_).take (i - from_))) i p := by
    intro from_ i acc h h1 h2
    have hl : ((b.drop from_).take (i - from_)).length = i - from_ := by rw [List.length_take, List.length_drop]; omega
    obtain ⟨p, hp⟩ := lo_pcs b d _ ((b.drop from_).take (i - from_)) (Nat.le_refl _) acc from_ none h (.inl rfl) (by omega) (by rw [hl])
    rw [hl, show from_ + (i - from_) = i by omega] at hp
    exact ⟨p, hp⟩
  induction f with
  | zero =>
    intro from_ i acc h h1 h2 h3
    rw [grd]
    obtain ⟨p, hp⟩ := run from_ i acc h h1 h2
    obtain rfl : i = b.length := by omega
    exact ⟨p, hp⟩
  | succ f ih =>
    intro from_ i acc h h1 h2 h3
    rw [grd]
    split
    · split
      · exact ih _ _ _ h (by omega) (by omega) (by omega)
      · rename_i hlt hz
        obtain ⟨p, hp⟩ := run from_ i acc h h1 h2
        have hok := (bst_ok b i i d (0, 0) (Nat.le_refl _) (.inl rfl)).resolve_left hz
        have hd : 1 ≤ d := by
          rcases Int.lt_or_le 0 d with hd | hd
          · omega
          · rw [bst_zero' b i d (0, 0) hd i] at hz
            exact absurd rfl hz
        obtain ⟨k1, k2, k3, k4, k5⟩ := hok
        have hle := lcp_le b 131 (i - (bst b i i d (0, 0)).1) i
        have hin := lcp_in b 131 (i - (bst b i i d (0, 0)).1) i h2
        have hal := lcp_eq b 131 (i - (bst b i i d (0, 0)).1) i
        have hst := lcp_stop b 131 (i - (bst b i i d (0, 0)).1) i
        rw [← k5] at hle hin hal hst
        exact ih _ _ _ (LO.cop hp k2 k3 k4 k1 hle (by omega) hd hal (fun h1 h2 => hst h1 h2)) (Nat.le_refl _) (by omega) (by omega)
    · obtain ⟨p, hp⟩ := run from_ i acc h h1 h2
      obtain rfl : i = b.length := by omega
      exact ⟨p, hp⟩
where
  bst_zero' (b : List Int) (i : Nat) (d : Int) (r : Nat × Nat) (h : d ≤ 0) (p : Nat) : bst b i p d r = r := by
    cases p with
    | zero => rfl
    | succ p => rw [bst, if_neg (by omega)]
theorem lo_gtok (b : List Int) (d : Int) : ∃ p, LO b d (gtok b d) b.length p := lo_grd b d _ _ _ _ .nil (Nat.le_refl _) (Nat.zero_le _) (by omega)
theorem LO.le {b : List Int} {d : Int} {ts : List Tok} {at_ : Nat} {p : Option Nat} (h : LO b d ts at_ p) : at_ ≤ b.length := by
  cases h with
  | nil => omega
  | lit h h1 h2 h3 => exact h3
  | cop h h1 h2 h3 h4 h5 h6 => exact h6
theorem run_app (m : Int) : ∀ (a c : List Tok) (out : List Int), (run m a out).1 = 0 → run m (a ++ c) out = run m c (run m a out).2 := by
  intro a
  induction a with
  | nil => intro c out _; rfl
  | cons t a ih =>
    intro c out h
    rw [run] at h
    rw [List.cons_append, run, run]
    split at h
    · rename_i h1
      rw [if_pos h1, if_pos h1]
      exact ih c _ h
    · rename_i h1
      exact absurd h h1
theorem cp_lay (b : List Int) (at_ dist : Nat) (h1 : 1 ≤ dist) (h2 : dist ≤ at_) : ∀ n, at_ + n ≤ b.length → (∀ k, k < n → b.getD (at_ - dist + k) 0 = b.getD (at_ + k) 0) → cp dist (b.take at_) n = b.take (at_ + n) := by
  intro n
  induction n with
  | zero => intro _ _; rfl
  | succ n ih =>
    intro hb h
    have e := ih (by omega) (fun k hk => h k (by omega))
    rw [cp, e, List.length_take, Nat.min_eq_left (by omega)]
    have e2 : (b.take (at_ + n)).getD (at_ + n - dist) 0 = b.getD (at_ + n) 0 := by
      rw [← h n (by omega), show at_ - dist + n = at_ + n - dist by omega]
      simp only [List.getD_eq_getElem?_getD, List.getElem?_take]
      rw [if_pos (by omega)]
    rw [e2, show at_ + (n + 1) = (at_ + n) + 1 by omega, List.take_succ_eq_append_getElem (by omega), getD_in (show at_ + n < b.length by omega)]
theorem lo_run (b : List Int) (d m : Int) {ts : List Tok} {at_ : Nat} {p : Option Nat} (h : LO b d ts at_ p) (hm : (at_ : Int) ≤ bnd m) : run m ts [] = (0, b.take at_) := by
  induction h with
  | nil => rfl
  | @lit ts at_ p l h h1 h2 h3 h4 h5 ih =>
    have e := ih (by omega)
    have hc : carry (b.take at_) (l, 0, 0) (bnd m) = (0, b.take (at_ + l.length)) := by
      have hl : (b.take at_).length = at_ := by rw [List.length_take]; omega
      unfold carry
      rw [if_neg (by rw [ill_lit h1 h2]; simp), hl, if_neg (by simp only; omega)]
      simp only [Int.toNat_zero, cp]
      rw [List.take_add, ← h4]
    rw [run_app m ts _ _ (by rw [e]), e, run, hc]
    rfl
  | @cop ts at_ p dist n h h1 h2 h3 h4 h5 h6 h7 h8 h9 ih =>
    have e := ih (by omega)
    have hc : carry (b.take at_) ([], (dist : Int), (n : Int)) (bnd m) = (0, b.take (at_ + n)) := by
      have hl : (b.take at_).length = at_ := by rw [List.length_take]; omega
      unfold carry
      rw [if_neg (by rw [ill_cop h1 h2 h4 h5, hl]; simp; omega), hl, if_neg (by simp only [List.length_nil]; omega)]
      simp only [Int.toNat_natCast, List.append_nil]
      rw [cp_lay b at_ dist h1 h3 n h6 h8]
    rw [run_app m ts _ _ (by rw [e]), e, run, hc]
    rfl
/-- The bytes of literals are b's. -/
theorem lo_bytes {b : List Int} {d : Int} {ts : List Tok} {at_ : Nat} {p : Option Nat} (h : LO b d ts at_ p) : ∀ t ∈ ts, ∀ x ∈ t.1, x ∈ b := by
  induction h with
  | nil => intro t ht; cases ht
  | lit h h1 h2 h3 h4 h5 ih =>
    intro t ht x hx
    rcases List.mem_append.1 ht with ht | ht
    · exact ih t ht x hx
    · rw [List.mem_singleton] at ht
      subst ht
      simp only at hx
      rw [h4] at hx
      exact List.mem_of_mem_drop (List.mem_of_mem_take hx)
  | cop h h1 h2 h3 h4 h5 h6 h7 h8 h9 ih =>
    intro t ht x hx
    rcases List.mem_append.1 ht with ht | ht
    · exact ih t ht x hx
    · rw [List.mem_singleton] at ht
      subst ht
      cases hx
/-- Bytes of good tokens, and what stands behind them. -/
theorem expd_encs (m : Int) (r : List Int) (hr : ∀ x ∈ r, 0 ≤ x ∧ x < 256) : ∀ (ts : List Tok) (out : List Int), (∀ t ∈ ts, ill t = false) → (∀ t ∈ ts, ∀ x ∈ t.1, 0 ≤ x ∧ x < 256) → (run m ts out).1 = 0 → expd m (encs ts ++ r).length (encs ts ++ r) out = expd m r.length r (run m ts out).2 := by
  intro ts
  induction ts with
  | nil => intro out _ _ _; rfl
  | cons t ts ih =>
    intro out h hby hrun
    have h0 := h t (by simp)
    have hb0 := hby t (by simp)
    have hn0 : ¬ ill t = true := by rw [h0]; simp
    have e : encs (t :: ts) ++ r = enc t ++ (encs ts ++ r) := by simp [encs]
    have hby2 : ∀ x ∈ encs (t :: ts) ++ r, 0 ≤ x ∧ x < 256 := by
      intro x hx
      rcases List.mem_append.1 hx with hx | hx
      · unfold encs at hx
        obtain ⟨l, hl, hx⟩ := List.mem_flatten.1 hx
        obtain ⟨t', ht', rfl⟩ := List.mem_map.1 hl
        exact enc_by (by rw [h t' ht']; simp) (hby t' ht') x hx
      · exact hr x hx
    have hne : encs (t :: ts) ++ r ≠ [] := by rw [e]; intro h; exact enc_ne t (List.append_eq_nil_iff.1 h).1
    rw [run] at hrun ⊢
    split at hrun
    case isFalse => rename_i h1; exact absurd hrun h1
    rename_i h1
    rw [if_pos h1]
    rw [expd_step m _ out hby2 hne, e, enc_one hn0 hb0]
    simp only [ne_eq, not_true_eq_false, if_false]
    rw [if_neg (by rw [h1]; simp), List.drop_left]
    exact ih _ (fun t ht => h t (by simp [ht])) (fun t ht => hby t (by simp [ht])) hrun
theorem getS_vput {n : Nat} (hn : n ≤ 32768) (r : List Int) : getS 10 1 (vput n ++ r) 0 = (zig n, ((vput n).length : Int), 0) := by
  unfold getS
  rw [if_neg (by simp only [List.length_append]; omega)]
  have hz : zig (n : Int) = ((2 * n : Nat) : Int) := by unfold zig; rw [if_pos (by omega)]; omega
  have hd : vput (n : Int) = dig (2 * n) := by
    unfold vput
    rw [hz]
    rfl
  have := scan_dig 10 1 (by decide) r 9 (2 * n) 0 0 (by decide) (by have : (128 : Nat) ^ 9 = 9223372036854775808 := by decide
                                                                    omega) (.inr rfl)
  rw [hd, hz]
  simp only [Int.toNat_zero, List.drop_zero]
  rw [show ((1 : Nat) : Int) = 1 from rfl] at this
  rw [this]
  unfold answer
  rw [if_pos rfl]
  simp
end Go.Proofs.YthjfncppiffnmaaDoor.Ra
