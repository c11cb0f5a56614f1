/-
  No cell of these rows narrows 'for every input' (looked for: loops, veiled, ifaces, maps, wideKeys, modest, calm, conditions, laid).
  DERIVED. THE GIVEN ROWS OF THIS SEAT. 7 by the template 'for every input the law returns true; each argument reads behind the call as it read before'; 0 by the template 'total and deterministic' (their statements: YthkbnmlelolljaaTotals.lean).
  GIVEN WITH THE SEED: the statements are not yours to turn. If you find one false, say at which input.
  Laid BY PROGRAM, IN A SANDBOX (cutbox-rows.mjs): the forced cells as the released guide's own fill.sh prints them over the translation e75080607437f889… (all of the seat's roots in one cut). By AI agents, Wed Nov 11 2026. No macro, syntax, notation, axiom, sorry.
-/
import Derived.Test.YthkbnmlelolljaaChecked
import GoSem.Claim
import GoSem.ClaimJoined
import GoSem.ClaimMapViews
import Derived.JoinedTies
import Derived.KernelRfl
namespace Go.Proofs.Ythkbnmlelolljaa
/- THE CELL 'sum', in the pinned program and in every row, IS THE sha256 OF THE DUMP (.gsa) THAT YthkbnmlelolljaaProg.lean LOADS. Nothing in Lean hashes anything: it is a label: what it is worth is what the hold of that sum in a sandbox is worth. -/
noncomputable def Try.pinned : Pinned := { name := "ythkbnmlelolljaa", sum := "e75080607437f8893d2624fda7b6a98d8f10233a7f4ea2f6b5f3d2fdc54b7ec5", checked := Try.checked }
namespace Rows
def none {H : Type} : Left H := { results := [], args := [] }

/-- 'leatlaw02.VintFolds': WHATEVER THE INPUT: true; the input reads as it did. -/
def vintFoldsSpec : ChangeSpec := { name := "vintFolds", fn := fun _ => fun
  | [d1, d2] => { results := [.lit (.bool true)], args := [d1, d2] }
  | _ => none }
def vintFoldsRow : OpenClaim := { program := "ythkbnmlelolljaa", sum := "e75080607437f8893d2624fda7b6a98d8f10233a7f4ea2f6b5f3d2fdc54b7ec5", func := "leat/leatlaw02.VintFolds", spec := "vintFolds", apart := false }
def VintFoldsSaid : Prop := vintFoldsRow.holds Try.pinned (OpenSpec.ofChange vintFoldsSpec)

/-- ITS FALSE NEIGHBOUR: 'it returns false'. Refute it at one input. -/
def vintFoldsWrong : ChangeSpec := { name := "vintFolds", fn := fun _ => fun
  | [d1, d2] => { results := [.lit (.bool false)], args := [d1, d2] }
  | _ => none }
def VintFoldsWrongFalsely : Prop := vintFoldsRow.holds Try.pinned (OpenSpec.ofChange vintFoldsWrong)

/-- 'leatlaw02.VintOnly': WHATEVER THE INPUT: true; the input reads as it did. -/
def vintOnlySpec : ChangeSpec := { name := "vintOnly", fn := fun _ => fun
  | [d1, d2] => { results := [.lit (.bool true)], args := [d1, d2] }
  | _ => none }
def vintOnlyRow : OpenClaim := { program := "ythkbnmlelolljaa", sum := "e75080607437f8893d2624fda7b6a98d8f10233a7f4ea2f6b5f3d2fdc54b7ec5", func := "leat/leatlaw02.VintOnly", spec := "vintOnly", apart := false }
def VintOnlySaid : Prop := vintOnlyRow.holds Try.pinned (OpenSpec.ofChange vintOnlySpec)

/-- ITS FALSE NEIGHBOUR: 'it returns false'. Refute it at one input. -/
def vintOnlyWrong : ChangeSpec := { name := "vintOnly", fn := fun _ => fun
  | [d1, d2] => { results := [.lit (.bool false)], args := [d1, d2] }
  | _ => none }
def VintOnlyWrongFalsely : Prop := vintOnlyRow.holds Try.pinned (OpenSpec.ofChange vintOnlyWrong)

/-- 'leatlaw02.VintGets': WHATEVER THE INPUT: true; the input reads as it did. -/
def vintGetsSpec : ChangeSpec := { name := "vintGets", fn := fun _ => fun
  | [d1, d2] => { results := [.lit (.bool true)], args := [d1, d2] }
  | _ => none }
def vintGetsRow : OpenClaim := { program := "ythkbnmlelolljaa", sum := "e75080607437f8893d2624fda7b6a98d8f10233a7f4ea2f6b5f3d2fdc54b7ec5", func := "leat/leatlaw02.VintGets", spec := "vintGets", apart := false }
def VintGetsSaid : Prop := vintGetsRow.holds Try.pinned (OpenSpec.ofChange vintGetsSpec)

/-- ITS FALSE NEIGHBOUR: 'it returns false'. Refute it at one input. -/
def vintGetsWrong : ChangeSpec := { name := "vintGets", fn := fun _ => fun
  | [d1, d2] => { results := [.lit (.bool false)], args := [d1, d2] }
  | _ => none }
def VintGetsWrongFalsely : Prop := vintGetsRow.holds Try.pinned (OpenSpec.ofChange vintGetsWrong)

/-- 'leatlaw02.VintPuts': WHATEVER THE INPUT: true; the input reads as it did. -/
def vintPutsSpec : ChangeSpec := { name := "vintPuts", fn := fun _ => fun
  | [d1, d2] => { results := [.lit (.bool true)], args := [d1, d2] }
  | _ => none }
def vintPutsRow : OpenClaim := { program := "ythkbnmlelolljaa", sum := "e75080607437f8893d2624fda7b6a98d8f10233a7f4ea2f6b5f3d2fdc54b7ec5", func := "leat/leatlaw02.VintPuts", spec := "vintPuts", apart := false }
def VintPutsSaid : Prop := vintPutsRow.holds Try.pinned (OpenSpec.ofChange vintPutsSpec)

/-- ITS FALSE NEIGHBOUR: 'it returns false'. Refute it at one input. -/
def vintPutsWrong : ChangeSpec := { name := "vintPuts", fn := fun _ => fun
  | [d1, d2] => { results := [.lit (.bool false)], args := [d1, d2] }
  | _ => none }
def VintPutsWrongFalsely : Prop := vintPutsRow.holds Try.pinned (OpenSpec.ofChange vintPutsWrong)

/-- 'leatlaw02.VintBack': WHATEVER THE INPUT: true; the input reads as it did. -/
def vintBackSpec : ChangeSpec := { name := "vintBack", fn := fun _ => fun
  | [d1, d2, d3] => { results := [.lit (.bool true)], args := [d1, d2, d3] }
  | _ => none }
def vintBackRow : OpenClaim := { program := "ythkbnmlelolljaa", sum := "e75080607437f8893d2624fda7b6a98d8f10233a7f4ea2f6b5f3d2fdc54b7ec5", func := "leat/leatlaw02.VintBack", spec := "vintBack", apart := false }
def VintBackSaid : Prop := vintBackRow.holds Try.pinned (OpenSpec.ofChange vintBackSpec)

/-- ITS FALSE NEIGHBOUR: 'it returns false'. Refute it at one input. -/
def vintBackWrong : ChangeSpec := { name := "vintBack", fn := fun _ => fun
  | [d1, d2, d3] => { results := [.lit (.bool false)], args := [d1, d2, d3] }
  | _ => none }
def VintBackWrongFalsely : Prop := vintBackRow.holds Try.pinned (OpenSpec.ofChange vintBackWrong)

/-- 'leatlaw02.VintLists': WHATEVER THE INPUT: true; the input reads as it did. -/
def vintListsSpec : ChangeSpec := { name := "vintLists", fn := fun _ => fun
  | [d1, d2] => { results := [.lit (.bool true)], args := [d1, d2] }
  | _ => none }
def vintListsRow : OpenClaim := { program := "ythkbnmlelolljaa", sum := "e75080607437f8893d2624fda7b6a98d8f10233a7f4ea2f6b5f3d2fdc54b7ec5", func := "leat/leatlaw02.VintLists", spec := "vintLists", apart := false }
def VintListsSaid : Prop := vintListsRow.holds Try.pinned (OpenSpec.ofChange vintListsSpec)

/-- ITS FALSE NEIGHBOUR: 'it returns false'. Refute it at one input. -/
def vintListsWrong : ChangeSpec := { name := "vintLists", fn := fun _ => fun
  | [d1, d2] => { results := [.lit (.bool false)], args := [d1, d2] }
  | _ => none }
def VintListsWrongFalsely : Prop := vintListsRow.holds Try.pinned (OpenSpec.ofChange vintListsWrong)

/-- 'leatlaw02.VintMany': WHATEVER THE INPUT: true; the input reads as it did. -/
def vintManySpec : ChangeSpec := { name := "vintMany", fn := fun _ => fun
  | [d1, d2] => { results := [.lit (.bool true)], args := [d1, d2] }
  | _ => none }
def vintManyRow : OpenClaim := { program := "ythkbnmlelolljaa", sum := "e75080607437f8893d2624fda7b6a98d8f10233a7f4ea2f6b5f3d2fdc54b7ec5", func := "leat/leatlaw02.VintMany", spec := "vintMany", apart := false }
def VintManySaid : Prop := vintManyRow.holds Try.pinned (OpenSpec.ofChange vintManySpec)

/-- ITS FALSE NEIGHBOUR: 'it returns false'. Refute it at one input. -/
def vintManyWrong : ChangeSpec := { name := "vintMany", fn := fun _ => fun
  | [d1, d2] => { results := [.lit (.bool false)], args := [d1, d2] }
  | _ => none }
def VintManyWrongFalsely : Prop := vintManyRow.holds Try.pinned (OpenSpec.ofChange vintManyWrong)

/- THE SECOND FORM. 'bulk': how many values and letters a reading holds, each counted each time it is reached (what is shared counts as often as it is met; a slice's spare places count too). A statement '..UptoSaid' is the law's where the arguments, and the package variables that the reading takes, are together of bulk at most 1048576: NARROWER than '..Said'. Prove '..Said' where nothing that the law and all that it calls make is longer than what came in: it says more and counts as full. Else prove '..UptoSaid'. A law counts once. -/
mutual
def uptoBulk {H : Type} : DataW H → Nat
  | .lit (.string bytes) => bytes.length + 1
  | .lit _ => 1
  | .nil => 1
  | .ptr d => uptoBulk d + 1
  | .slice elems spare => uptoBulkAll elems + uptoBulkAll spare + 1
  | .agg parts => uptoBulkAll parts + 1
  | .iface _ d => uptoBulk d + 1
  | .map entries => uptoBulkEntries entries + 1
  | .held _ => 1
def uptoBulkAll {H : Type} : List (DataW H) → Nat
  | [] => 0
  | d :: r => uptoBulk d + uptoBulkAll r
def uptoBulkEntries {H : Type} : List (Lit × DataW H) → Nat
  | [] => 0
  | x :: r => uptoBulkEntry x + uptoBulkEntries r
def uptoBulkEntry {H : Type} : Lit × DataW H → Nat
  | (.string bytes, d) => bytes.length + uptoBulk d + 1
  | (_, d) => uptoBulk d + 1
 end
def uptoSmall : (H : Type) → List (DataW H) → Bool := fun _ ds => decide (uptoBulkAll ds ≤ 1048576)
def OpenSpec.upto (s : _root_.Go.ChangeSpec) : _root_.Go.OpenSpec := { _root_.Go.OpenSpec.ofChange s with cond := some uptoSmall }

/-- 'leatlaw02.VintFolds', WHERE WHAT IT READS IS OF BULK AT MOST 1048576: true; the input reads as it did. -/
def vintFoldsUptoRow : OpenClaim := { program := "ythkbnmlelolljaa", sum := "e75080607437f8893d2624fda7b6a98d8f10233a7f4ea2f6b5f3d2fdc54b7ec5", func := "leat/leatlaw02.VintFolds", spec := "vintFolds", apart := false, narrowed := true }
def VintFoldsUptoSaid : Prop := vintFoldsUptoRow.holds Try.pinned (OpenSpec.upto vintFoldsSpec)

/-- 'leatlaw02.VintOnly', WHERE WHAT IT READS IS OF BULK AT MOST 1048576: true; the input reads as it did. -/
def vintOnlyUptoRow : OpenClaim := { program := "ythkbnmlelolljaa", sum := "e75080607437f8893d2624fda7b6a98d8f10233a7f4ea2f6b5f3d2fdc54b7ec5", func := "leat/leatlaw02.VintOnly", spec := "vintOnly", apart := false, narrowed := true }
def VintOnlyUptoSaid : Prop := vintOnlyUptoRow.holds Try.pinned (OpenSpec.upto vintOnlySpec)

/-- 'leatlaw02.VintGets', WHERE WHAT IT READS IS OF BULK AT MOST 1048576: true; the input reads as it did. -/
def vintGetsUptoRow : OpenClaim := { program := "ythkbnmlelolljaa", sum := "e75080607437f8893d2624fda7b6a98d8f10233a7f4ea2f6b5f3d2fdc54b7ec5", func := "leat/leatlaw02.VintGets", spec := "vintGets", apart := false, narrowed := true }
def VintGetsUptoSaid : Prop := vintGetsUptoRow.holds Try.pinned (OpenSpec.upto vintGetsSpec)

/-- 'leatlaw02.VintPuts', WHERE WHAT IT READS IS OF BULK AT MOST 1048576: true; the input reads as it did. -/
def vintPutsUptoRow : OpenClaim := { program := "ythkbnmlelolljaa", sum := "e75080607437f8893d2624fda7b6a98d8f10233a7f4ea2f6b5f3d2fdc54b7ec5", func := "leat/leatlaw02.VintPuts", spec := "vintPuts", apart := false, narrowed := true }
def VintPutsUptoSaid : Prop := vintPutsUptoRow.holds Try.pinned (OpenSpec.upto vintPutsSpec)

/-- 'leatlaw02.VintBack', WHERE WHAT IT READS IS OF BULK AT MOST 1048576: true; the input reads as it did. -/
def vintBackUptoRow : OpenClaim := { program := "ythkbnmlelolljaa", sum := "e75080607437f8893d2624fda7b6a98d8f10233a7f4ea2f6b5f3d2fdc54b7ec5", func := "leat/leatlaw02.VintBack", spec := "vintBack", apart := false, narrowed := true }
def VintBackUptoSaid : Prop := vintBackUptoRow.holds Try.pinned (OpenSpec.upto vintBackSpec)

/-- 'leatlaw02.VintLists', WHERE WHAT IT READS IS OF BULK AT MOST 1048576: true; the input reads as it did. -/
def vintListsUptoRow : OpenClaim := { program := "ythkbnmlelolljaa", sum := "e75080607437f8893d2624fda7b6a98d8f10233a7f4ea2f6b5f3d2fdc54b7ec5", func := "leat/leatlaw02.VintLists", spec := "vintLists", apart := false, narrowed := true }
def VintListsUptoSaid : Prop := vintListsUptoRow.holds Try.pinned (OpenSpec.upto vintListsSpec)

/-- 'leatlaw02.VintMany', WHERE WHAT IT READS IS OF BULK AT MOST 1048576: true; the input reads as it did. -/
def vintManyUptoRow : OpenClaim := { program := "ythkbnmlelolljaa", sum := "e75080607437f8893d2624fda7b6a98d8f10233a7f4ea2f6b5f3d2fdc54b7ec5", func := "leat/leatlaw02.VintMany", spec := "vintMany", apart := false, narrowed := true }
def VintManyUptoSaid : Prop := vintManyUptoRow.holds Try.pinned (OpenSpec.upto vintManySpec)

end Rows
end Go.Proofs.Ythkbnmlelolljaa
