/-
  No cell of these rows narrows 'for every input' (looked for: loops, veiled, ifaces, maps, wideKeys, modest, calm, conditions, laid).
  DERIVED. THE GIVEN ROWS OF THIS SEAT. 5 by the template 'for every input the law returns true; each argument reads behind the call as it read before'; 0 by the template 'total and deterministic' (their statements: YtfffpjogpefomaaTotals.lean).
  GIVEN WITH THE SEED: the statements are not yours to turn. If you find one false, say at which input.
  Laid BY PROGRAM, IN A SANDBOX (cutbox-rows.mjs): the forced cells as the released guide's own fill.sh prints them over the translation 01b27923b58d465b… (all of the seat's roots in one cut). By AI agents, Wed Nov 11 2026. No macro, syntax, notation, axiom, sorry.
-/
import Derived.Test.YtfffpjogpefomaaChecked
import GoSem.Claim
import GoSem.ClaimJoined
import GoSem.ClaimMapViews
import Derived.JoinedTies
import Derived.KernelRfl
namespace Go.Proofs.Ytfffpjogpefomaa
/- THE CELL 'sum', in the pinned program and in every row, IS THE sha256 OF THE DUMP (.gsa) THAT YtfffpjogpefomaaProg.lean LOADS. Nothing in Lean hashes anything: it is a label: what it is worth is what the hold of that sum in a sandbox is worth. -/
noncomputable def Try.pinned : Pinned := { name := "ytfffpjogpefomaa", sum := "01b27923b58d465bd8ad31c42075d8aeefd12691702814d5251239d02153061d", checked := Try.checked }
namespace Rows
def none {H : Type} : Left H := { results := [], args := [] }

/-- 'leatlaw01.CursorJoins': WHATEVER THE INPUT: true; the input reads as it did. -/
def cursorJoinsSpec : ChangeSpec := { name := "cursorJoins", fn := fun _ => fun
  | [d] => { results := [.lit (.bool true)], args := [d] }
  | _ => none }
def cursorJoinsRow : OpenClaim := { program := "ytfffpjogpefomaa", sum := "01b27923b58d465bd8ad31c42075d8aeefd12691702814d5251239d02153061d", func := "leat/leatlaw01.CursorJoins", spec := "cursorJoins", apart := false }
def CursorJoinsSaid : Prop := cursorJoinsRow.holds Try.pinned (OpenSpec.ofChange cursorJoinsSpec)

/-- ITS FALSE NEIGHBOUR: 'it returns false'. Refute it at one input. -/
def cursorJoinsWrong : ChangeSpec := { name := "cursorJoins", fn := fun _ => fun
  | [d] => { results := [.lit (.bool false)], args := [d] }
  | _ => none }
def CursorJoinsWrongFalsely : Prop := cursorJoinsRow.holds Try.pinned (OpenSpec.ofChange cursorJoinsWrong)

/-- 'leatlaw01.CursorWrites': WHATEVER THE INPUT: true; the input reads as it did. -/
def cursorWritesSpec : ChangeSpec := { name := "cursorWrites", fn := fun _ => fun
  | [d1, d2] => { results := [.lit (.bool true)], args := [d1, d2] }
  | _ => none }
def cursorWritesRow : OpenClaim := { program := "ytfffpjogpefomaa", sum := "01b27923b58d465bd8ad31c42075d8aeefd12691702814d5251239d02153061d", func := "leat/leatlaw01.CursorWrites", spec := "cursorWrites", apart := false }
def CursorWritesSaid : Prop := cursorWritesRow.holds Try.pinned (OpenSpec.ofChange cursorWritesSpec)

/-- ITS FALSE NEIGHBOUR: 'it returns false'. Refute it at one input. -/
def cursorWritesWrong : ChangeSpec := { name := "cursorWrites", fn := fun _ => fun
  | [d1, d2] => { results := [.lit (.bool false)], args := [d1, d2] }
  | _ => none }
def CursorWritesWrongFalsely : Prop := cursorWritesRow.holds Try.pinned (OpenSpec.ofChange cursorWritesWrong)

/-- 'leatlaw01.CursorKeeps': WHATEVER THE INPUT: true; the input reads as it did. -/
def cursorKeepsSpec : ChangeSpec := { name := "cursorKeeps", fn := fun _ => fun
  | [d1, d2] => { results := [.lit (.bool true)], args := [d1, d2] }
  | _ => none }
def cursorKeepsRow : OpenClaim := { program := "ytfffpjogpefomaa", sum := "01b27923b58d465bd8ad31c42075d8aeefd12691702814d5251239d02153061d", func := "leat/leatlaw01.CursorKeeps", spec := "cursorKeeps", apart := false }
def CursorKeepsSaid : Prop := cursorKeepsRow.holds Try.pinned (OpenSpec.ofChange cursorKeepsSpec)

/-- ITS FALSE NEIGHBOUR: 'it returns false'. Refute it at one input. -/
def cursorKeepsWrong : ChangeSpec := { name := "cursorKeeps", fn := fun _ => fun
  | [d1, d2] => { results := [.lit (.bool false)], args := [d1, d2] }
  | _ => none }
def CursorKeepsWrongFalsely : Prop := cursorKeepsRow.holds Try.pinned (OpenSpec.ofChange cursorKeepsWrong)

/-- 'leatlaw01.CursorReads': WHATEVER THE INPUT: true; the input reads as it did. -/
def cursorReadsSpec : ChangeSpec := { name := "cursorReads", fn := fun _ => fun
  | [d1, d2] => { results := [.lit (.bool true)], args := [d1, d2] }
  | _ => none }
def cursorReadsRow : OpenClaim := { program := "ytfffpjogpefomaa", sum := "01b27923b58d465bd8ad31c42075d8aeefd12691702814d5251239d02153061d", func := "leat/leatlaw01.CursorReads", spec := "cursorReads", apart := false }
def CursorReadsSaid : Prop := cursorReadsRow.holds Try.pinned (OpenSpec.ofChange cursorReadsSpec)

/-- ITS FALSE NEIGHBOUR: 'it returns false'. Refute it at one input. -/
def cursorReadsWrong : ChangeSpec := { name := "cursorReads", fn := fun _ => fun
  | [d1, d2] => { results := [.lit (.bool false)], args := [d1, d2] }
  | _ => none }
def CursorReadsWrongFalsely : Prop := cursorReadsRow.holds Try.pinned (OpenSpec.ofChange cursorReadsWrong)

/-- 'leatlaw01.CursorThere': WHATEVER THE INPUT: true; the input reads as it did. -/
def cursorThereSpec : ChangeSpec := { name := "cursorThere", fn := fun _ => fun
  | [d] => { results := [.lit (.bool true)], args := [d] }
  | _ => none }
def cursorThereRow : OpenClaim := { program := "ytfffpjogpefomaa", sum := "01b27923b58d465bd8ad31c42075d8aeefd12691702814d5251239d02153061d", func := "leat/leatlaw01.CursorThere", spec := "cursorThere", apart := false }
def CursorThereSaid : Prop := cursorThereRow.holds Try.pinned (OpenSpec.ofChange cursorThereSpec)

/-- ITS FALSE NEIGHBOUR: 'it returns false'. Refute it at one input. -/
def cursorThereWrong : ChangeSpec := { name := "cursorThere", fn := fun _ => fun
  | [d] => { results := [.lit (.bool false)], args := [d] }
  | _ => none }
def CursorThereWrongFalsely : Prop := cursorThereRow.holds Try.pinned (OpenSpec.ofChange cursorThereWrong)

/- THE SECOND FORM. 'bulk': how many values and letters a reading holds, each counted each time it is reached (what is shared counts as often as it is met; a slice's spare places count too). A statement '..UptoSaid' is the law's where the arguments, and the package variables that the reading takes, are together of bulk at most 1048576: NARROWER than '..Said'. Prove '..Said' where nothing that the law and all that it calls make is longer than what came in: it says more and counts as full. Else prove '..UptoSaid'. A law counts once. -/
mutual
def uptoBulk {H : Type} : DataW H → Nat
  | .lit (.string bytes) => bytes.length + 1
  | .lit _ => 1
  | .nil => 1
  | .ptr d => uptoBulk d + 1
  | .slice elems spare => uptoBulkAll elems + uptoBulkAll spare + 1
  | .agg parts => uptoBulkAll parts + 1
  | .iface _ d => uptoBulk d + 1
  | .map entries => uptoBulkEntries entries + 1
  | .held _ => 1
def uptoBulkAll {H : Type} : List (DataW H) → Nat
  | [] => 0
  | d :: r => uptoBulk d + uptoBulkAll r
def uptoBulkEntries {H : Type} : List (Lit × DataW H) → Nat
  | [] => 0
  | x :: r => uptoBulkEntry x + uptoBulkEntries r
def uptoBulkEntry {H : Type} : Lit × DataW H → Nat
  | (.string bytes, d) => bytes.length + uptoBulk d + 1
  | (_, d) => uptoBulk d + 1
 end
def uptoSmall : (H : Type) → List (DataW H) → Bool := fun _ ds => decide (uptoBulkAll ds ≤ 1048576)
def OpenSpec.upto (s : _root_.Go.ChangeSpec) : _root_.Go.OpenSpec := { _root_.Go.OpenSpec.ofChange s with cond := some uptoSmall }

/-- 'leatlaw01.CursorJoins', WHERE WHAT IT READS IS OF BULK AT MOST 1048576: true; the input reads as it did. -/
def cursorJoinsUptoRow : OpenClaim := { program := "ytfffpjogpefomaa", sum := "01b27923b58d465bd8ad31c42075d8aeefd12691702814d5251239d02153061d", func := "leat/leatlaw01.CursorJoins", spec := "cursorJoins", apart := false, narrowed := true }
def CursorJoinsUptoSaid : Prop := cursorJoinsUptoRow.holds Try.pinned (OpenSpec.upto cursorJoinsSpec)

/-- 'leatlaw01.CursorWrites', WHERE WHAT IT READS IS OF BULK AT MOST 1048576: true; the input reads as it did. -/
def cursorWritesUptoRow : OpenClaim := { program := "ytfffpjogpefomaa", sum := "01b27923b58d465bd8ad31c42075d8aeefd12691702814d5251239d02153061d", func := "leat/leatlaw01.CursorWrites", spec := "cursorWrites", apart := false, narrowed := true }
def CursorWritesUptoSaid : Prop := cursorWritesUptoRow.holds Try.pinned (OpenSpec.upto cursorWritesSpec)

/-- 'leatlaw01.CursorKeeps', WHERE WHAT IT READS IS OF BULK AT MOST 1048576: true; the input reads as it did. -/
def cursorKeepsUptoRow : OpenClaim := { program := "ytfffpjogpefomaa", sum := "01b27923b58d465bd8ad31c42075d8aeefd12691702814d5251239d02153061d", func := "leat/leatlaw01.CursorKeeps", spec := "cursorKeeps", apart := false, narrowed := true }
def CursorKeepsUptoSaid : Prop := cursorKeepsUptoRow.holds Try.pinned (OpenSpec.upto cursorKeepsSpec)

/-- 'leatlaw01.CursorReads', WHERE WHAT IT READS IS OF BULK AT MOST 1048576: true; the input reads as it did. -/
def cursorReadsUptoRow : OpenClaim := { program := "ytfffpjogpefomaa", sum := "01b27923b58d465bd8ad31c42075d8aeefd12691702814d5251239d02153061d", func := "leat/leatlaw01.CursorReads", spec := "cursorReads", apart := false, narrowed := true }
def CursorReadsUptoSaid : Prop := cursorReadsUptoRow.holds Try.pinned (OpenSpec.upto cursorReadsSpec)

/-- 'leatlaw01.CursorThere', WHERE WHAT IT READS IS OF BULK AT MOST 1048576: true; the input reads as it did. -/
def cursorThereUptoRow : OpenClaim := { program := "ytfffpjogpefomaa", sum := "01b27923b58d465bd8ad31c42075d8aeefd12691702814d5251239d02153061d", func := "leat/leatlaw01.CursorThere", spec := "cursorThere", apart := false, narrowed := true }
def CursorThereUptoSaid : Prop := cursorThereUptoRow.holds Try.pinned (OpenSpec.upto cursorThereSpec)

end Rows
end Go.Proofs.Ytfffpjogpefomaa
