/- leatlaw06.PressBack. -/
import Derived.Test.YthjfncppiffnmaaDoorWi
import Derived.Test.YthjfncppiffnmaaDoorWq
import Derived.Test.YthjfncppiffnmaaDoorPc
namespace Go.Proofs.YthjfncppiffnmaaDoor.Ra
open Go Go.RowKit Pn Vn
set_option linter.unusedVariables false
set_option linter.unusedSimpArgs false
set_option maxRecDepth 10000
theorem unpack_of {n : Nat} (hn : n ≤ 32768) (r : List Int) (most : Int) : unpack (vput n ++ r) most = if (n : Int) > max most 0 then (4, []) else if (expd n r.length r []).1 = 4 ∨ ((expd n r.length r []).1 = 0 ∧ ((expd n r.length r []).2.length : Int) < n) then (60, []) else if (expd n r.length r []).1 ≠ 0 then ((expd n r.length r []).1, []) else (0, (expd n r.length r []).2) := by
  unfold unpack
  rw [getS_vput hn r]
  simp only [zag_zig, Int.toNat_natCast, List.drop_left]
  rw [if_neg (by simp), if_neg (by omega)]
  by_cases h : (n : Int) > max most 0
  · rw [if_pos h, if_pos (.inl h)]
  · rw [if_neg h, if_neg (by omega)]
theorem byte_lt {b : List Int} (hby : byts b) : ∀ x ∈ b, 0 ≤ x ∧ x < 256 := fun x hx => by have := hby x hx; omega
theorem gtok_run (b : List Int) (hl : b.length ≤ 32768) : run b.length (gtok b 8) [] = (0, b) := by
  obtain ⟨p, hp⟩ := lo_gtok b 8
  have := lo_run b 8 b.length hp (by rw [bnd_in (by omega) (by omega)]; exact Int.le_refl _)
  rw [List.take_length] at this
  exact this
theorem gtok_bytes (b : List Int) (hby : byts b) : ∀ t ∈ gtok b 8, ∀ x ∈ t.1, 0 ≤ x ∧ x < 256 := by
  obtain ⟨p, hp⟩ := lo_gtok b 8
  exact fun t ht x hx => byte_lt hby x (lo_bytes hp t ht x hx)
theorem back_all (b : List Int) (hl : b.length ≤ 32768) (hby : byts b) : expd b.length (encs (gtok b 8)).length (encs (gtok b 8)) [] = (0, b) := by
  have := expd_encs b.length [] (by simp) (gtok b 8) [] (gtok_fine b 8) (gtok_bytes b hby) (by rw [gtok_run b hl])
  rw [List.append_nil, gtok_run b hl] at this
  exact this
theorem one_short {r : List Int} (h : r ≠ []) (h1 : (r.getD 0 0 < 128 ∧ (r.length : Int) < r.getD 0 0 + 2) ∨ (128 ≤ r.getD 0 0 ∧ r.length < 3)) : (one r).1 = 1 := by
  unfold one
  rcases h1 with ⟨h1, h2⟩ | ⟨h1, h2⟩
  · rw [if_pos h1, if_pos h2]
  · rw [if_neg (by omega), if_pos h2]
theorem expd_short (m : Int) {r out : List Int} (h : r ≠ []) (h1 : (one r).1 = 1) : expd m r.length r out = (1, []) := by
  cases hr : r with
  | nil => exact absurd hr h
  | cons x t =>
    rw [← hr]
    have hl : r.length = t.length + 1 := by rw [hr]; rfl
    rw [hl, expd, if_neg h, if_pos (by rw [h1]; decide), h1]
theorem back_long (b : List Int) (hl : b.length ≤ 32768) (hby : byts b) (more : Int) (h0 : 0 ≤ more ∧ more < 256) : expd b.length (encs (gtok b 8) ++ [more]).length (encs (gtok b 8) ++ [more]) [] = (1, []) := by
  rw [expd_encs b.length [more] (by simpa using h0) (gtok b 8) [] (gtok_fine b 8) (gtok_bytes b hby) (by rw [gtok_run b hl])]
  refine expd_short _ (by simp) (one_short (by simp) ?_)
  by_cases h : more < 128
  · exact .inl ⟨h, by simp; omega⟩
  · exact .inr ⟨by simpa using h, by simp⟩
theorem lo_last {b : List Int} {d : Int} {ts : List Tok} {at_ : Nat} {p : Option Nat} (h : LO b d ts at_ p) (h0 : 0 < at_) : ∃ ts' t at' p', ts = ts' ++ [t] ∧ LO b d ts' at' p' ∧ at' ≤ at_ ∧ ((∃ l, t = (l, 0, 0) ∧ 1 ≤ l.length ∧ l.length ≤ 128) ∨ ∃ dist n : Nat, t = ([], (dist : Int), (n : Int)) ∧ 1 ≤ dist ∧ 4 ≤ n ∧ n ≤ 131) := by
  cases h with
  | nil => omega
  | @lit ts' at' p' l h h1 h2 h3 h4 h5 => exact ⟨ts', _, at', p', rfl, h, by omega, .inl ⟨l, rfl, h1, h2⟩⟩
  | @cop ts' at' p' dist n h h1 h2 h3 h4 h5 h6 h7 h8 h9 => exact ⟨ts', _, at', p', rfl, h, by omega, .inr ⟨dist, n, rfl, h1, h4, h5⟩⟩
theorem back_cut (b : List Int) (hl : b.length ≤ 32768) (hby : byts b) (h0 : 0 < b.length) : ∃ r, (encs (gtok b 8)).take ((encs (gtok b 8)).length - 1) = r ∧ expd b.length r.length r [] = (1, []) ∧ 1 ≤ (encs (gtok b 8)).length := by
  obtain ⟨p, hp⟩ := lo_gtok b 8
  have hfine := gtok_fine b 8
  have hbys := gtok_bytes b hby
  obtain ⟨ts', t, at', p', he, hlo, hat, ht⟩ := lo_last hp h0
  rw [he] at hfine hbys ⊢
  have hrun := lo_run b 8 b.length hlo (by rw [bnd_in (by omega) (by omega)]; omega)
  have hel : 2 ≤ (enc t).length := by
    rcases ht with ⟨l, rfl, h1, h2⟩ | ⟨dist, n, rfl, h1, h2, h3⟩
    · rw [enc_lit]; omega
    · rw [enc_cop h1]; omega
  rw [encs_app, encs_one]
  have hlen : (encs ts' ++ enc t).length = (encs ts').length + (enc t).length := List.length_append
  have htk : (encs ts' ++ enc t).take ((encs ts' ++ enc t).length - 1) = encs ts' ++ (enc t).take ((enc t).length - 1) := by
    rw [hlen, List.take_append, List.take_of_length_le (by omega)]
    congr 2
    omega
  have htb : ∀ x ∈ enc t, 0 ≤ x ∧ x < 256 := enc_by (by rw [hfine t (by simp)]; simp) (hbys t (by simp))
  refine ⟨_, rfl, ?_, by omega⟩
  rw [htk, expd_encs b.length _ (fun x hx => htb x (List.mem_of_mem_take hx)) ts' [] (fun t ht => hfine t (by simp [ht])) (fun t ht => hbys t (by simp [ht])) (by rw [hrun])]
  have htl : ((enc t).take ((enc t).length - 1)).length = (enc t).length - 1 := by rw [List.length_take]; omega
  have hne : (enc t).take ((enc t).length - 1) ≠ [] := fun e => by rw [e] at htl; simp at htl; omega
  have hg : ((enc t).take ((enc t).length - 1)).getD 0 0 = (enc t).getD 0 0 := by
    simp only [List.getD_eq_getElem?_getD, List.getElem?_take]
    rw [if_pos (by omega)]
  refine expd_short _ hne (one_short hne ?_)
  rw [htl, hg]
  rcases ht with ⟨l, rfl, h1, h2⟩ | ⟨dist, n, rfl, h1, h2, h3⟩
  · have e : (enc (l, 0, 0)).getD 0 0 = (l.length : Int) - 1 := by
      unfold enc; rw [cop_lit]; rfl
    rw [e, enc_lit]
    exact .inl ⟨by omega, by omega⟩
  · have e : (enc ([], (dist : Int), (n : Int))).getD 0 0 = 124 + n := by
      have hc : cop ([], (dist : Int), (n : Int)) = true := by
        simp only [cop, decide_eq_true_eq]
        omega
      unfold enc; rw [hc]; rfl
    rw [e, enc_cop h1]
    exact .inr ⟨by omega, by omega⟩
theorem unpack_bad {p : List Int} {most : Int} (h : (getS 10 1 p 0).2.2 = 1) : unpack p most = (1, []) := by
  unfold unpack
  rw [if_pos (by rw [h]; decide), h]
/-- The three blocks. -/
theorem unp_full (b : List Int) (hl : b.length ≤ 32768) (hby : byts b) (most : Int) : unpack (pack b).2 most = if most ≥ b.length ∨ b.length = 0 then (0, b) else (4, []) := by
  unfold pack
  rw [if_neg (by omega)]
  simp only
  rw [unpack_of hl, back_all b hl hby]
  by_cases h : most ≥ b.length ∨ b.length = 0
  · rw [if_pos h, if_neg (by omega), if_neg (by simp), if_neg (by simp)]
  · rw [if_neg h, if_pos (by omega)]
theorem unp_long (b : List Int) (hl : b.length ≤ 32768) (hby : byts b) (more : Int) (h0 : 0 ≤ more ∧ more < 256) : unpack ((pack b).2 ++ [more]) b.length = (1, []) := by
  unfold pack
  rw [if_neg (by omega)]
  simp only [List.append_assoc]
  rw [unpack_of hl, back_long b hl hby more h0, if_neg (by omega), if_neg (by simp), if_pos (by simp)]
theorem unp_cut (b : List Int) (hl : b.length ≤ 32768) (hby : byts b) : unpack ((pack b).2.take ((pack b).2.length - 1)) b.length = (1, []) := by
  unfold pack
  rw [if_neg (by omega)]
  simp only
  have hv := vput_nat_len (n := b.length) hl
  by_cases h0 : 0 < b.length
  · obtain ⟨r, hr, he, h1⟩ := back_cut b hl hby h0
    have e : (vput b.length ++ encs (gtok b 8)).take ((vput b.length ++ encs (gtok b 8)).length - 1) = vput b.length ++ r := by
      rw [List.length_append, List.take_append, List.take_of_length_le (by omega), ← hr]
      congr 2
      omega
    rw [e, unpack_of hl, he, if_neg (by omega), if_neg (by simp), if_pos (by simp)]
  · obtain rfl : b = [] := List.eq_nil_of_length_eq_zero (by omega)
    have e : vput (([] : List Int).length : Nat) = [0] := by
      show dig 0 = [0]
      rw [dig_small (by decide)]
      rfl
    have e2 : encs (gtok [] 8) = [] := by decide +kernel
    rw [e, e2]
    exact unpack_bad (by decide +kernel)
theorem pack_pos (b : List Int) (hl : b.length ≤ 32768) : 1 ≤ (pack b).2.length := by
  unfold pack
  rw [if_neg (by omega)]
  have := (vput_nat_len (n := b.length) hl).1
  simp only [List.length_append]
  omega
theorem pack_bytes (b : List Int) (hl : b.length ≤ 32768) (hby : byts b) : byts (pack b).2 := by
  unfold pack
  rw [if_neg (by omega)]
  refine bytes_append (vput_byts (fit_nat (by omega))) fun x hx => ?_
  unfold encs at hx
  obtain ⟨l, hl, hx⟩ := List.mem_flatten.1 hx
  obtain ⟨t, ht, rfl⟩ := List.mem_map.1 hl
  have := enc_by (by rw [gtok_fine b 8 t ht]; simp) (gtok_bytes b hby t ht) x hx
  omega
end Go.Proofs.YthjfncppiffnmaaDoor.Ra
