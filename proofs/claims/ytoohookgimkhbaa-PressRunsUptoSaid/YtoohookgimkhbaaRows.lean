/-
  No cell of these rows narrows 'for every input' (looked for: loops, veiled, ifaces, maps, wideKeys, modest, calm, conditions, laid).
  DERIVED. THE GIVEN ROWS OF THIS SEAT. 6 by the template 'for every input the law returns true; each argument reads behind the call as it read before'; 0 by the template 'total and deterministic' (their statements: YtoohookgimkhbaaTotals.lean).
  GIVEN WITH THE SEED: the statements are not yours to turn. If you find one false, say at which input.
  Laid BY PROGRAM, IN A SANDBOX (cutbox-rows.mjs): the forced cells as the released guide's own fill.sh prints them over the translation 75eb7ee6b15bc72b… (all of the seat's roots in one cut). By AI agents, Wed Nov 11 2026. No macro, syntax, notation, axiom, sorry.
-/
import Derived.Test.YtoohookgimkhbaaChecked
import GoSem.Claim
import GoSem.ClaimJoined
import GoSem.ClaimMapViews
import Derived.JoinedTies
import Derived.KernelRfl
namespace Go.Proofs.Ytoohookgimkhbaa
/- THE CELL 'sum', in the pinned program and in every row, IS THE sha256 OF THE DUMP (.gsa) THAT YtoohookgimkhbaaProg.lean LOADS. Nothing in Lean hashes anything: it is a label: what it is worth is what the hold of that sum in a sandbox is worth. -/
noncomputable def Try.pinned : Pinned := { name := "ytoohookgimkhbaa", sum := "75eb7ee6b15bc72bde92c8d126ae83470f51443c2bb9d72edbe815e9279ae5a0", checked := Try.checked }
namespace Rows
def none {H : Type} : Left H := { results := [], args := [] }

/-- 'leatlaw06.PressTokens': WHATEVER THE INPUT: true; the input reads as it did. -/
def pressTokensSpec : ChangeSpec := { name := "pressTokens", fn := fun _ => fun
  | [d1, d2] => { results := [.lit (.bool true)], args := [d1, d2] }
  | _ => none }
def pressTokensRow : OpenClaim := { program := "ytoohookgimkhbaa", sum := "75eb7ee6b15bc72bde92c8d126ae83470f51443c2bb9d72edbe815e9279ae5a0", func := "leat/leatlaw06.PressTokens", spec := "pressTokens", unfollowed := true, recurses := true, apart := false }
def PressTokensSaid : Prop := pressTokensRow.holds Try.pinned (OpenSpec.ofChange pressTokensSpec)

/-- ITS FALSE NEIGHBOUR: 'it returns false'. Refute it at one input. -/
def pressTokensWrong : ChangeSpec := { name := "pressTokens", fn := fun _ => fun
  | [d1, d2] => { results := [.lit (.bool false)], args := [d1, d2] }
  | _ => none }
def PressTokensWrongFalsely : Prop := pressTokensRow.holds Try.pinned (OpenSpec.ofChange pressTokensWrong)

/-- 'leatlaw06.PressPacks': WHATEVER THE INPUT: true; the input reads as it did. -/
def pressPacksSpec : ChangeSpec := { name := "pressPacks", fn := fun _ => fun
  | [d] => { results := [.lit (.bool true)], args := [d] }
  | _ => none }
def pressPacksRow : OpenClaim := { program := "ytoohookgimkhbaa", sum := "75eb7ee6b15bc72bde92c8d126ae83470f51443c2bb9d72edbe815e9279ae5a0", func := "leat/leatlaw06.PressPacks", spec := "pressPacks", unfollowed := true, recurses := true, apart := false }
def PressPacksSaid : Prop := pressPacksRow.holds Try.pinned (OpenSpec.ofChange pressPacksSpec)

/-- ITS FALSE NEIGHBOUR: 'it returns false'. Refute it at one input. -/
def pressPacksWrong : ChangeSpec := { name := "pressPacks", fn := fun _ => fun
  | [d] => { results := [.lit (.bool false)], args := [d] }
  | _ => none }
def PressPacksWrongFalsely : Prop := pressPacksRow.holds Try.pinned (OpenSpec.ofChange pressPacksWrong)

/-- 'leatlaw06.PressUnpacks': WHATEVER THE INPUT: true; the input reads as it did. -/
def pressUnpacksSpec : ChangeSpec := { name := "pressUnpacks", fn := fun _ => fun
  | [d1, d2] => { results := [.lit (.bool true)], args := [d1, d2] }
  | _ => none }
def pressUnpacksRow : OpenClaim := { program := "ytoohookgimkhbaa", sum := "75eb7ee6b15bc72bde92c8d126ae83470f51443c2bb9d72edbe815e9279ae5a0", func := "leat/leatlaw06.PressUnpacks", spec := "pressUnpacks", unfollowed := true, recurses := true, apart := false }
def PressUnpacksSaid : Prop := pressUnpacksRow.holds Try.pinned (OpenSpec.ofChange pressUnpacksSpec)

/-- ITS FALSE NEIGHBOUR: 'it returns false'. Refute it at one input. -/
def pressUnpacksWrong : ChangeSpec := { name := "pressUnpacks", fn := fun _ => fun
  | [d1, d2] => { results := [.lit (.bool false)], args := [d1, d2] }
  | _ => none }
def PressUnpacksWrongFalsely : Prop := pressUnpacksRow.holds Try.pinned (OpenSpec.ofChange pressUnpacksWrong)

/-- 'leatlaw06.PressBack': WHATEVER THE INPUT: true; the input reads as it did. -/
def pressBackSpec : ChangeSpec := { name := "pressBack", fn := fun _ => fun
  | [d1, d2, d3] => { results := [.lit (.bool true)], args := [d1, d2, d3] }
  | _ => none }
def pressBackRow : OpenClaim := { program := "ytoohookgimkhbaa", sum := "75eb7ee6b15bc72bde92c8d126ae83470f51443c2bb9d72edbe815e9279ae5a0", func := "leat/leatlaw06.PressBack", spec := "pressBack", unfollowed := true, recurses := true, apart := false }
def PressBackSaid : Prop := pressBackRow.holds Try.pinned (OpenSpec.ofChange pressBackSpec)

/-- ITS FALSE NEIGHBOUR: 'it returns false'. Refute it at one input. -/
def pressBackWrong : ChangeSpec := { name := "pressBack", fn := fun _ => fun
  | [d1, d2, d3] => { results := [.lit (.bool false)], args := [d1, d2, d3] }
  | _ => none }
def PressBackWrongFalsely : Prop := pressBackRow.holds Try.pinned (OpenSpec.ofChange pressBackWrong)

/-- 'leatlaw06.PressGreedy': WHATEVER THE INPUT: true; the input reads as it did. -/
def pressGreedySpec : ChangeSpec := { name := "pressGreedy", fn := fun _ => fun
  | [d1, d2] => { results := [.lit (.bool true)], args := [d1, d2] }
  | _ => none }
def pressGreedyRow : OpenClaim := { program := "ytoohookgimkhbaa", sum := "75eb7ee6b15bc72bde92c8d126ae83470f51443c2bb9d72edbe815e9279ae5a0", func := "leat/leatlaw06.PressGreedy", spec := "pressGreedy", unfollowed := true, recurses := true, apart := false }
def PressGreedySaid : Prop := pressGreedyRow.holds Try.pinned (OpenSpec.ofChange pressGreedySpec)

/-- ITS FALSE NEIGHBOUR: 'it returns false'. Refute it at one input. -/
def pressGreedyWrong : ChangeSpec := { name := "pressGreedy", fn := fun _ => fun
  | [d1, d2] => { results := [.lit (.bool false)], args := [d1, d2] }
  | _ => none }
def PressGreedyWrongFalsely : Prop := pressGreedyRow.holds Try.pinned (OpenSpec.ofChange pressGreedyWrong)

/-- 'leatlaw06.PressRuns': WHATEVER THE INPUT: true; the input reads as it did. -/
def pressRunsSpec : ChangeSpec := { name := "pressRuns", fn := fun _ => fun
  | [d1, d2] => { results := [.lit (.bool true)], args := [d1, d2] }
  | _ => none }
def pressRunsRow : OpenClaim := { program := "ytoohookgimkhbaa", sum := "75eb7ee6b15bc72bde92c8d126ae83470f51443c2bb9d72edbe815e9279ae5a0", func := "leat/leatlaw06.PressRuns", spec := "pressRuns", unfollowed := true, recurses := true, apart := false }
def PressRunsSaid : Prop := pressRunsRow.holds Try.pinned (OpenSpec.ofChange pressRunsSpec)

/-- ITS FALSE NEIGHBOUR: 'it returns false'. Refute it at one input. -/
def pressRunsWrong : ChangeSpec := { name := "pressRuns", fn := fun _ => fun
  | [d1, d2] => { results := [.lit (.bool false)], args := [d1, d2] }
  | _ => none }
def PressRunsWrongFalsely : Prop := pressRunsRow.holds Try.pinned (OpenSpec.ofChange pressRunsWrong)

/- THE SECOND FORM. 'bulk': how many values and letters a reading holds, each counted each time it is reached (what is shared counts as often as it is met; a slice's spare places count too). A statement '..UptoSaid' is the law's where the arguments, and the package variables that the reading takes, are together of bulk at most 1048576: NARROWER than '..Said'. Prove '..Said' where nothing that the law and all that it calls make is longer than what came in: it says more and counts as full. Else prove '..UptoSaid'. A law counts once. -/
mutual
def uptoBulk {H : Type} : DataW H → Nat
  | .lit (.string bytes) => bytes.length + 1
  | .lit _ => 1
  | .nil => 1
  | .ptr d => uptoBulk d + 1
  | .slice elems spare => uptoBulkAll elems + uptoBulkAll spare + 1
  | .agg parts => uptoBulkAll parts + 1
  | .iface _ d => uptoBulk d + 1
  | .map entries => uptoBulkEntries entries + 1
  | .held _ => 1
def uptoBulkAll {H : Type} : List (DataW H) → Nat
  | [] => 0
  | d :: r => uptoBulk d + uptoBulkAll r
def uptoBulkEntries {H : Type} : List (Lit × DataW H) → Nat
  | [] => 0
  | x :: r => uptoBulkEntry x + uptoBulkEntries r
def uptoBulkEntry {H : Type} : Lit × DataW H → Nat
  | (.string bytes, d) => bytes.length + uptoBulk d + 1
  | (_, d) => uptoBulk d + 1
 end
def uptoSmall : (H : Type) → List (DataW H) → Bool := fun _ ds => decide (uptoBulkAll ds ≤ 1048576)
def OpenSpec.upto (s : _root_.Go.ChangeSpec) : _root_.Go.OpenSpec := { _root_.Go.OpenSpec.ofChange s with cond := some uptoSmall }

/-- 'leatlaw06.PressTokens', WHERE WHAT IT READS IS OF BULK AT MOST 1048576: true; the input reads as it did. -/
def pressTokensUptoRow : OpenClaim := { program := "ytoohookgimkhbaa", sum := "75eb7ee6b15bc72bde92c8d126ae83470f51443c2bb9d72edbe815e9279ae5a0", func := "leat/leatlaw06.PressTokens", spec := "pressTokens", unfollowed := true, recurses := true, apart := false, narrowed := true }
def PressTokensUptoSaid : Prop := pressTokensUptoRow.holds Try.pinned (OpenSpec.upto pressTokensSpec)

/-- 'leatlaw06.PressPacks', WHERE WHAT IT READS IS OF BULK AT MOST 1048576: true; the input reads as it did. -/
def pressPacksUptoRow : OpenClaim := { program := "ytoohookgimkhbaa", sum := "75eb7ee6b15bc72bde92c8d126ae83470f51443c2bb9d72edbe815e9279ae5a0", func := "leat/leatlaw06.PressPacks", spec := "pressPacks", unfollowed := true, recurses := true, apart := false, narrowed := true }
def PressPacksUptoSaid : Prop := pressPacksUptoRow.holds Try.pinned (OpenSpec.upto pressPacksSpec)

/-- 'leatlaw06.PressUnpacks', WHERE WHAT IT READS IS OF BULK AT MOST 1048576: true; the input reads as it did. -/
def pressUnpacksUptoRow : OpenClaim := { program := "ytoohookgimkhbaa", sum := "75eb7ee6b15bc72bde92c8d126ae83470f51443c2bb9d72edbe815e9279ae5a0", func := "leat/leatlaw06.PressUnpacks", spec := "pressUnpacks", unfollowed := true, recurses := true, apart := false, narrowed := true }
def PressUnpacksUptoSaid : Prop := pressUnpacksUptoRow.holds Try.pinned (OpenSpec.upto pressUnpacksSpec)

/-- 'leatlaw06.PressBack', WHERE WHAT IT READS IS OF BULK AT MOST 1048576: true; the input reads as it did. -/
def pressBackUptoRow : OpenClaim := { program := "ytoohookgimkhbaa", sum := "75eb7ee6b15bc72bde92c8d126ae83470f51443c2bb9d72edbe815e9279ae5a0", func := "leat/leatlaw06.PressBack", spec := "pressBack", unfollowed := true, recurses := true, apart := false, narrowed := true }
def PressBackUptoSaid : Prop := pressBackUptoRow.holds Try.pinned (OpenSpec.upto pressBackSpec)

/-- 'leatlaw06.PressGreedy', WHERE WHAT IT READS IS OF BULK AT MOST 1048576: true; the input reads as it did. -/
def pressGreedyUptoRow : OpenClaim := { program := "ytoohookgimkhbaa", sum := "75eb7ee6b15bc72bde92c8d126ae83470f51443c2bb9d72edbe815e9279ae5a0", func := "leat/leatlaw06.PressGreedy", spec := "pressGreedy", unfollowed := true, recurses := true, apart := false, narrowed := true }
def PressGreedyUptoSaid : Prop := pressGreedyUptoRow.holds Try.pinned (OpenSpec.upto pressGreedySpec)

/-- 'leatlaw06.PressRuns', WHERE WHAT IT READS IS OF BULK AT MOST 1048576: true; the input reads as it did. -/
def pressRunsUptoRow : OpenClaim := { program := "ytoohookgimkhbaa", sum := "75eb7ee6b15bc72bde92c8d126ae83470f51443c2bb9d72edbe815e9279ae5a0", func := "leat/leatlaw06.PressRuns", spec := "pressRuns", unfollowed := true, recurses := true, apart := false, narrowed := true }
def PressRunsUptoSaid : Prop := pressRunsUptoRow.holds Try.pinned (OpenSpec.upto pressRunsSpec)

end Rows
end Go.Proofs.Ytoohookgimkhbaa
