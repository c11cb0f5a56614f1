/- Rows of rows of bytes; cursor.Join. -/
import Derived.Test.YtoccmjhgmoandaaSi
namespace Go.Proofs.Ytoccmjhgmoandaa.Ra
open Go Go.RowKit
set_option linter.unusedVariables false
set_option linter.unusedSimpArgs false
set_option maxRecDepth 10000
theorem TB : TF Try.prog 22 26 1 24 := TF.of (by kernel_rfl) (by kernel_rfl) (by decide)
/-- A slice of slices of bytes. -/
abbrev RB (st : St) (K : Nat → Prop) (cs : List AV) (xs : List Int) : Prop := ∃ c, cs = [c] ∧ RdB st K c xs
abbrev RdR (st : St) (K K' : Nat → Prop) (v : AV) (ps : List (List Int)) : Prop := RdL st K 1 (RB st K') v ps
abbrev OwR (st : St) (K K' : Nat → Prop) (v : AV) (ps : List (List Int)) : Prop := OwL st K 26 1 (RB st K') v ps
theorem RB.keep {st st' : St} {K G : Nat → Prop} (hk : Keeps G st st') (hd : ∀ g, K g → ¬ G g) (c : List AV) (x : List Int) (h : RB st K c x) : RB st' K c x := by
  obtain ⟨c', h1, h2⟩ := h
  exact ⟨c', h1, h2.keep hk hd⟩
theorem RB.one {st : St} {K : Nat → Prop} (c : List AV) (x : List Int) (h : RB st K c x) : c.all AV.one = true := by
  obtain ⟨c', rfl, h2⟩ := h
  simp [h2.cell.2]
theorem RdR.keep {st st' : St} {K K' G : Nat → Prop} {v : AV} {ps : List (List Int)} (h : RdR st K K' v ps) (hk : Keeps G st st') (hd : ∀ g, K g → ¬ G g) (hd' : ∀ g, K' g → ¬ G g) : RdR st' K K' v ps := RdL.keep h hk hd (fun c x => RB.keep hk hd' c x)
theorem OwR.keep {st st' : St} {K K' G : Nat → Prop} {v : AV} {ps : List (List Int)} (h : OwR st K K' v ps) (hk : Keeps G st st') (hd : ∀ g, K g → ¬ G g) (hd' : ∀ g, K' g → ¬ G g) : OwR st' K K' v ps := OwL.keep h hk hd (fun c x => RB.keep hk hd' c x)
theorem RB.lt {st : St} (hw : WF st) {K : Nat → Prop} (c : List AV) (x : List Int) (h : RB st K c x) : RB st (fun g => K g ∧ g < st.n) c x := by
  obtain ⟨c', h1, h2⟩ := h
  exact ⟨c', h1, h2.lt hw⟩
theorem RdR.at {st : St} {K K' : Nat → Prop} {v : AV} {ps : List (List Int)} (h : RdR st K K' v ps) (k : IntKind) (j : Nat) (hj : j < ps.length) :
    ∃ q c, aindexAddr Try.prog 22 v (.pl (.int k j)) = some q ∧ q.solid = true ∧ aload Try.prog st 26 q = some c ∧ c.solid = true ∧ RdB st K' c ps[j] := by
  obtain ⟨i, off, o, h1, h2, h3, h4, c, h5, h6⟩ := RdL.at h TB k j hj
  exact ⟨_, c, h1, rfl, load_one uB rfl szB h2 h4 h5, h6.solid, h6⟩
theorem flat_len (ps : List (List Int)) (k : Nat) : (ps.take k).flatten.length ≤ ps.flatten.length := by
  have := congrArg List.length (congrArg List.flatten (List.take_append_drop k ps))
  rw [List.flatten_append, List.length_append] at this
  omega
theorem flat_succ (ps : List (List Int)) (k : Nat) (h : k < ps.length) : (ps.take (k + 1)).flatten = (ps.take k).flatten ++ ps[k] := by
  rw [List.take_succ_eq_append_getElem h, List.flatten_append]
  simp
end Go.Proofs.Ytoccmjhgmoandaa.Ra
