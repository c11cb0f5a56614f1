/- leatlaw06: alive, PressPacks, PressUnpacks. -/
import Derived.Test.YthjfncppiffnmaaDoorWh
import Derived.Test.YthjfncppiffnmaaDoorTi
import Derived.Test.YthjfncppiffnmaaDoorVf
namespace Go.Proofs.YthjfncppiffnmaaDoor.Ra
open Go Go.RowKit Pn Vn
set_option linter.unusedVariables false
set_option linter.unusedSimpArgs false
set_option maxRecDepth 10000
/-- A literal of bytes, marked. -/
theorem mark_lit (st : St) (id g id' : Nat) (ns : List Int) : aconvert Tryd.prog (st.put id ⟨ns.map u8, 5, true, g⟩) id' 22 22 (.sl id 0 ns.length 1) = some (.sl id' 0 ns.length 0, ((st.put id ⟨ns.map u8, 5, true, g⟩).kill g).put id' ⟨ns.map u8, 5, false, id'⟩) := by
  simp only [aconvert, uB, if_true, amark, u5, get_put]
theorem RdB.marked (st : St) (id g : Nat) (ns : List Int) : RdB (st.put id ⟨ns.map u8, 5, false, g⟩) (fun h => h = g) (.sl id 0 ns.length 0) ns :=
  .inr ⟨id, 0, false, _, rfl, get_put _ _, rfl, by simp, fun j x hx => by simp [hx]⟩
def abc : List Int := [97, 98, 99, 97, 98, 99, 97, 98, 99, 97, 98]
def abp : List Int := [22, 2, 97, 98, 99, 132, 0, 3]
theorem lit11 (id : Nat) : abuildSlice Tryd.prog 22 id 11 [(0, u8 97), (1, u8 98), (2, u8 99), (3, u8 97), (4, u8 98), (5, u8 99), (6, u8 97), (7, u8 98), (8, u8 99), (9, u8 97), (10, u8 98)] = some (.sl id 0 abc.length 1, ⟨abc.map u8, 5, true, id⟩) := lits id abc (by decide)
theorem lit8B (id : Nat) : abuildSlice Tryd.prog 22 id 8 [(0, u8 22), (1, u8 2), (2, u8 97), (3, u8 98), (4, u8 99), (5, u8 132), (6, u8 0), (7, u8 3)] = some (.sl id 0 abp.length 1, ⟨abp.map u8, 5, true, id⟩) := lits id abp (by decide)
theorem gtokA : encs (gtok abc 8) = [2, 97, 98, 99, 132, 0, 3] := by decide +kernel
theorem packA : pack abc = (0, abp) := by
  have h : vput ((abc.length : Nat) : Int) = [22] := by
    show dig 22 = [22]
    rw [dig_small (by decide)]
    rfl
  unfold pack
  rw [if_neg (by decide), gtokA, h]
  rfl
theorem unpackA : unpack abp 11 = (0, abc) := by decide +kernel
theorem abp_byts : byts abp := by unfold byts; decide
theorem expd_bnd (most : Int) : ∀ (f : Nat) (b out : List Int), (out.length : Int) ≤ bnd most → ((expd most f b out).2.length : Int) ≤ bnd most := by
  intro f
  have hb := bnd_range most
  induction f with
  | zero => intro b out h; exact h
  | succ f ih =>
    intro b out h
    rw [expd]
    split
    · exact h
    · split
      · simp; omega
      · split
        · simp; omega
        · rename_i he
          have := carry_len (by simpa using he)
          exact ih _ _ (by omega)
theorem bnd_in {z : Int} (h0 : 0 ≤ z) (h1 : z ≤ 32768) : bnd z = z := by
  unfold bnd
  omega
theorem unpack_len (b : List Int) (most : Int) : (unpack b most).2.length ≤ 32768 ∧ (0 < (unpack b most).2.length → ((unpack b most).2.length : Int) ≤ most) := by
  unfold unpack
  split
  · simp
  · split
    · simp
    · split
      · simp
      · split
        · simp
        · split
          · simp
          · rename_i h2 h3 h4 h5
            have := expd_bnd (zag (getS 10 1 b 0).1) (b.drop (getS 10 1 b 0).2.1.toNat).length (b.drop (getS 10 1 b 0).2.1.toNat) [] (by have := bnd_range (zag (getS 10 1 b 0).1); simp; omega)
            rw [bnd_in (by omega) (by omega)] at this
            simp only
            omega
end Go.Proofs.YthjfncppiffnmaaDoor.Ra
