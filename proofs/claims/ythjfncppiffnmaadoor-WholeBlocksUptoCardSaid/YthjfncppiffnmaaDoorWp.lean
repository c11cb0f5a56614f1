/- press: plain laws of packing: the tokens are good ones; sizes. -/
import Derived.Test.YthjfncppiffnmaaDoorWc
import Derived.Test.YthjfncppiffnmaaDoorTj
import Derived.Test.YthjfncppiffnmaaDoorTg
import Derived.Test.YthjfncppiffnmaaDoorVd
namespace Go.Proofs.YthjfncppiffnmaaDoor.Ra
open Go Go.RowKit Pn Vn
set_option linter.unusedVariables false
set_option linter.unusedSimpArgs false
theorem ill_lit {l : List Int} (h1 : 1 ≤ l.length) (h2 : l.length ≤ 128) : ill (l, 0, 0) = false := by
  have hc : cop (l, 0, 0) = false := by simp [cop]
  unfold ill
  rw [hc, if_neg (by simp)]
  exact decide_eq_false (by simp only; omega)
theorem ill_cop {d n : Nat} (h1 : 1 ≤ d) (h2 : d ≤ 4096) (h3 : 4 ≤ n) (h4 : n ≤ 131) : ill ([], (d : Int), (n : Int)) = false := by
  have hc : cop ([], (d : Int), (n : Int)) = true := by
    simp only [cop, decide_eq_true_eq]
    omega
  unfold ill
  rw [hc, if_pos rfl]
  exact decide_eq_false (by simp only [List.length_nil]; omega)
theorem cop_lit (l : List Int) : cop (l, 0, 0) = false := by simp [cop]
/-- What holds for all pieces. -/
theorem chunks_ind (P : List Int → Prop) (h : ∀ l, 1 ≤ l.length → l.length ≤ 128 → P l) : ∀ (f : Nat) (l : List Int), ∀ t ∈ chunks f l, P t.1 ∧ t.2 = (0, 0) ∧ 1 ≤ t.1.length ∧ t.1.length ≤ 128 := by
  intro f
  induction f with
  | zero => intro l t ht; cases ht
  | succ f ih =>
    intro l t ht
    rw [chunks] at ht
    split at ht
    · cases ht
    · rename_i hl
      have hlen : 0 < l.length := List.length_pos_iff.2 hl
      rcases List.mem_cons.1 ht with rfl | ht
      · have h1 : 1 ≤ (l.take 128).length := by rw [List.length_take]; omega
        have h2 : (l.take 128).length ≤ 128 := by rw [List.length_take]; omega
        exact ⟨h _ h1 h2, rfl, h1, h2⟩
      · exact ih _ t ht
theorem pcs_fine (l : List Int) : ∀ t ∈ pcs l, ill t = false := by
  intro t ht
  obtain ⟨_, h2, h3, h4⟩ := chunks_ind (fun _ => True) (fun _ _ _ => trivial) _ _ t ht
  obtain ⟨a, b⟩ := t
  simp only at h2 h3 h4
  subst h2
  exact ill_lit h3 h4
theorem grd_fine (b : List Int) (d : Int) : ∀ (f from_ i : Nat) (acc : List Tok), (∀ t ∈ acc, ill t = false) → ∀ t ∈ grd b d f from_ i acc, ill t = false := by
  intro f
  induction f with
  | zero =>
    intro from_ i acc h t ht
    rw [grd] at ht
    rcases List.mem_append.1 ht with ht | ht
    · exact h t ht
    · exact pcs_fine _ t ht
  | succ f ih =>
    intro from_ i acc h t ht
    rw [grd] at ht
    split at ht
    · split at ht
      · exact ih _ _ _ h t ht
      · rename_i hz
        refine ih _ _ _ (fun t ht => ?_) t ht
        have hok := (bst_ok b i i d (0, 0) (Nat.le_refl _) (.inl rfl)).resolve_left hz
        have hle := lcp_le b 131 (i - (bst b i i d (0, 0)).1) i
        rcases List.mem_append.1 ht with ht | ht
        · rcases List.mem_append.1 ht with ht | ht
          · exact h t ht
          · exact pcs_fine _ t ht
        · rw [List.mem_singleton] at ht
          subst ht
          exact ill_cop hok.2.1 hok.2.2.1 hok.1 (by omega)
    · rcases List.mem_append.1 ht with ht | ht
      · exact h t ht
      · exact pcs_fine _ t ht
/-- The bytes of tokens. -/
def encs (ts : List Tok) : List Int := (ts.map enc).flatten
theorem encs_app (a b : List Tok) : encs (a ++ b) = encs a ++ encs b := by simp [encs]
theorem encs_one (t : Tok) : encs [t] = enc t := by simp [encs]
theorem pr_fine : ∀ (ts : List Tok) (out : List Int), (∀ t ∈ ts, ill t = false) → pr ts out = (0, out ++ encs ts) := by
  intro ts
  induction ts with
  | nil => intro out _; simp [pr, encs]
  | cons t ts ih =>
    intro out h
    rw [pr, if_neg (by rw [h t (by simp)]; simp), ih _ (fun t ht => h t (by simp [ht]))]
    simp [encs]
/-- The greedy search's tokens. -/
def gtok (b : List Int) (d : Int) : List Tok := grd b d b.length 0 0 []
theorem gtok_fine (b : List Int) (d : Int) : ∀ t ∈ gtok b d, ill t = false := grd_fine b d _ _ _ _ (by simp)
theorem enc_lit (l : List Int) : (enc (l, 0, 0)).length = l.length + 1 := by
  unfold enc
  rw [cop_lit]
  simp
theorem enc_cop {d n : Nat} (h : 1 ≤ d) : (enc ([], (d : Int), (n : Int))).length = 3 := by
  have hc : cop ([], (d : Int), (n : Int)) = true := by
    simp only [cop, decide_eq_true_eq]
    omega
  unfold enc
  rw [hc]
  rfl
theorem pcs_size : ∀ (m : Nat) (l : List Int), l.length ≤ m → (encs (pcs l)).length ≤ l.length + l.length / 128 + 1 := by
  intro m
  induction m using Nat.strongRecOn with
  | _ m ih =>
    intro l hm
    by_cases hl : l = []
    · subst hl
      simp [pcs_nil, encs]
    · have hlen : 0 < l.length := List.length_pos_iff.2 hl
      rw [pcs_step l hl, show (l.take 128, (0 : Int), (0 : Int)) :: pcs (l.drop 128) = [(l.take 128, 0, 0)] ++ pcs (l.drop 128) from rfl, encs_app, encs_one, List.length_append, enc_lit, List.length_take]
      by_cases h1 : 128 < l.length
      · have := ih (l.length - 128) (by omega) (l.drop 128) (by rw [List.length_drop]; omega)
        rw [List.length_drop] at this
        omega
      · rw [List.drop_of_length_le (by omega), pcs_nil]
        simp [encs]
        omega
theorem pcs_size0 (l : List Int) (h : l = []) : (encs (pcs l)).length = 0 := by subst h; rfl
theorem grd_size (b : List Int) (d : Int) : ∀ (f from_ i : Nat) (acc : List Tok), from_ ≤ i → i ≤ b.length → (encs acc).length ≤ from_ + from_ / 128 → (encs (grd b d f from_ i acc)).length ≤ b.length + b.length / 128 + 1 := by
  intro f
  have fin : ∀ (from_ i : Nat) (acc : List Tok), from_ ≤ i → i ≤ b.length → (encs acc).length ≤ from_ + from_ / 128 → (encs (acc ++ pcs ((b.drop from_).take (i - from_)))).length ≤ i + i / 128 + 1 := by
    intro from_ i acc h1 h2 h3
    have hl : ((b.drop from_).take (i - from_)).length = i - from_ := by rw [List.length_take, List.length_drop]; omega
    have := pcs_size _ ((b.drop from_).take (i - from_)) (Nat.le_refl _)
    rw [encs_app, List.length_append]
    rw [hl] at this
    omega
  induction f with
  | zero =>
    intro from_ i acc h1 h2 h3
    rw [grd]
    have := fin from_ i acc h1 h2 h3
    omega
  | succ f ih =>
    intro from_ i acc h1 h2 h3
    rw [grd]
    split
    · split
      · exact ih _ _ _ (by omega) (by omega) h3
      · rename_i hlt hz
        have hok := (bst_ok b i i d (0, 0) (Nat.le_refl _) (.inl rfl)).resolve_left hz
        have hin := lcp_in b 131 (i - (bst b i i d (0, 0)).1) i h2
        refine ih _ _ _ (Nat.le_refl _) (by omega) ?_
        have := fin from_ i acc h1 h2 h3
        rw [encs_app, encs_one, List.length_append, enc_cop hok.2.1]
        omega
    · have := fin from_ i acc h1 h2 h3
      omega
theorem gtok_size (b : List Int) (d : Int) : (encs (gtok b d)).length ≤ b.length + b.length / 128 + 1 := grd_size b d _ _ _ _ (Nat.le_refl _) (Nat.zero_le _) (by simp [encs])
theorem enc_pos (t : Tok) : 1 ≤ (enc t).length := by
  unfold enc
  split <;> simp
theorem encs_len : ∀ ts : List Tok, ts.length ≤ (encs ts).length := by
  intro ts
  induction ts with
  | nil => simp
  | cons t ts ih =>
    have := enc_pos t
    rw [show t :: ts = [t] ++ ts from rfl, encs_app, encs_one, List.length_append, List.length_append, List.length_singleton]
    omega
theorem gtok_len (b : List Int) (d : Int) : (gtok b d).length ≤ b.length + b.length / 128 + 1 := Nat.le_trans (encs_len _) (gtok_size b d)
/-- A packed block. -/
def pack (b : List Int) : Int × List Int := if 32768 < b.length then (4, []) else (0, vput b.length ++ encs (gtok b 8))
/-- The bytes of a packed block. -/
def unpack (b : List Int) (most : Int) : Int × List Int :=
  if (getS 10 1 b 0).2.2 ≠ 0 then ((getS 10 1 b 0).2.2, [])
  else if zag (getS 10 1 b 0).1 < 0 then (5, [])
  else if zag (getS 10 1 b 0).1 > max most 0 ∨ zag (getS 10 1 b 0).1 > 32768 then (4, [])
  else if (expd (zag (getS 10 1 b 0).1) (b.drop (getS 10 1 b 0).2.1.toNat).length (b.drop (getS 10 1 b 0).2.1.toNat) []).1 = 4 ∨ ((expd (zag (getS 10 1 b 0).1) (b.drop (getS 10 1 b 0).2.1.toNat).length (b.drop (getS 10 1 b 0).2.1.toNat) []).1 = 0 ∧ ((expd (zag (getS 10 1 b 0).1) (b.drop (getS 10 1 b 0).2.1.toNat).length (b.drop (getS 10 1 b 0).2.1.toNat) []).2.length : Int) < zag (getS 10 1 b 0).1) then (60, [])
  else if (expd (zag (getS 10 1 b 0).1) (b.drop (getS 10 1 b 0).2.1.toNat).length (b.drop (getS 10 1 b 0).2.1.toNat) []).1 ≠ 0 then ((expd (zag (getS 10 1 b 0).1) (b.drop (getS 10 1 b 0).2.1.toNat).length (b.drop (getS 10 1 b 0).2.1.toNat) []).1, [])
  else (0, (expd (zag (getS 10 1 b 0).1) (b.drop (getS 10 1 b 0).2.1.toNat).length (b.drop (getS 10 1 b 0).2.1.toNat) []).2)
theorem vput_nat_len {n : Nat} (h : n ≤ 32768) : 1 ≤ (vput n).length ∧ (vput n).length ≤ 3 := by
  unfold vput
  refine dig_len 2 _ ?_
  unfold zig
  rw [if_pos (by omega)]
  have : (128 : Nat) ^ (2 + 1) = 2097152 := by decide
  omega
theorem pack_len (b : List Int) : (pack b).2.length ≤ b.length + b.length / 128 + 4 := by
  unfold pack
  split
  · simp
  · have h1 := (vput_nat_len (n := b.length) (by omega)).2
    have h2 := gtok_size b 8
    simp only [List.length_append]
    omega
end Go.Proofs.YthjfncppiffnmaaDoor.Ra
