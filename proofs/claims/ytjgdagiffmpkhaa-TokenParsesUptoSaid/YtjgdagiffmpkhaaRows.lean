/-
  No cell of these rows narrows 'for every input' (looked for: loops, veiled, ifaces, maps, wideKeys, modest, calm, conditions, laid).
  DERIVED. THE GIVEN ROWS OF THIS SEAT. 6 by the template 'for every input the law returns true; each argument reads behind the call as it read before'; 0 by the template 'total and deterministic' (their statements: YtjgdagiffmpkhaaTotals.lean).
  GIVEN WITH THE SEED: the statements are not yours to turn. If you find one false, say at which input.
  Laid BY PROGRAM, IN A SANDBOX (cutbox-rows.mjs): the forced cells as the released guide's own fill.sh prints them over the translation f9884c5fda97d710… (all of the seat's roots in one cut). By AI agents, Wed Nov 11 2026. No macro, syntax, notation, axiom, sorry.
-/
import Derived.Test.YtjgdagiffmpkhaaChecked
import GoSem.Claim
import GoSem.ClaimJoined
import GoSem.ClaimMapViews
import Derived.JoinedTies
import Derived.KernelRfl
namespace Go.Proofs.Ytjgdagiffmpkhaa
/- THE CELL 'sum', in the pinned program and in every row, IS THE sha256 OF THE DUMP (.gsa) THAT YtjgdagiffmpkhaaProg.lean LOADS. Nothing in Lean hashes anything: it is a label: what it is worth is what the hold of that sum in a sandbox is worth. -/
noncomputable def Try.pinned : Pinned := { name := "ytjgdagiffmpkhaa", sum := "f9884c5fda97d710c589340ffe7808537272ba8b5f5a94fa232698b38d6d33b9", checked := Try.checked }
namespace Rows
def none {H : Type} : Left H := { results := [], args := [] }

/-- 'leatlaw05.TokenPrints': WHATEVER THE INPUT: true; the input reads as it did. -/
def tokenPrintsSpec : ChangeSpec := { name := "tokenPrints", fn := fun _ => fun
  | [d] => { results := [.lit (.bool true)], args := [d] }
  | _ => none }
def tokenPrintsRow : OpenClaim := { program := "ytjgdagiffmpkhaa", sum := "f9884c5fda97d710c589340ffe7808537272ba8b5f5a94fa232698b38d6d33b9", func := "leat/leatlaw05.TokenPrints", spec := "tokenPrints", apart := false }
def TokenPrintsSaid : Prop := tokenPrintsRow.holds Try.pinned (OpenSpec.ofChange tokenPrintsSpec)

/-- ITS FALSE NEIGHBOUR: 'it returns false'. Refute it at one input. -/
def tokenPrintsWrong : ChangeSpec := { name := "tokenPrints", fn := fun _ => fun
  | [d] => { results := [.lit (.bool false)], args := [d] }
  | _ => none }
def TokenPrintsWrongFalsely : Prop := tokenPrintsRow.holds Try.pinned (OpenSpec.ofChange tokenPrintsWrong)

/-- 'leatlaw05.TokenExpands': WHATEVER THE INPUT: true; the input reads as it did. -/
def tokenExpandsSpec : ChangeSpec := { name := "tokenExpands", fn := fun _ => fun
  | [d1, d2] => { results := [.lit (.bool true)], args := [d1, d2] }
  | _ => none }
def tokenExpandsRow : OpenClaim := { program := "ytjgdagiffmpkhaa", sum := "f9884c5fda97d710c589340ffe7808537272ba8b5f5a94fa232698b38d6d33b9", func := "leat/leatlaw05.TokenExpands", spec := "tokenExpands", apart := false }
def TokenExpandsSaid : Prop := tokenExpandsRow.holds Try.pinned (OpenSpec.ofChange tokenExpandsSpec)

/-- ITS FALSE NEIGHBOUR: 'it returns false'. Refute it at one input. -/
def tokenExpandsWrong : ChangeSpec := { name := "tokenExpands", fn := fun _ => fun
  | [d1, d2] => { results := [.lit (.bool false)], args := [d1, d2] }
  | _ => none }
def TokenExpandsWrongFalsely : Prop := tokenExpandsRow.holds Try.pinned (OpenSpec.ofChange tokenExpandsWrong)

/-- 'leatlaw05.TokenRuns': WHATEVER THE INPUT: true; the input reads as it did. -/
def tokenRunsSpec : ChangeSpec := { name := "tokenRuns", fn := fun _ => fun
  | [d1, d2] => { results := [.lit (.bool true)], args := [d1, d2] }
  | _ => none }
def tokenRunsRow : OpenClaim := { program := "ytjgdagiffmpkhaa", sum := "f9884c5fda97d710c589340ffe7808537272ba8b5f5a94fa232698b38d6d33b9", func := "leat/leatlaw05.TokenRuns", spec := "tokenRuns", apart := false }
def TokenRunsSaid : Prop := tokenRunsRow.holds Try.pinned (OpenSpec.ofChange tokenRunsSpec)

/-- ITS FALSE NEIGHBOUR: 'it returns false'. Refute it at one input. -/
def tokenRunsWrong : ChangeSpec := { name := "tokenRuns", fn := fun _ => fun
  | [d1, d2] => { results := [.lit (.bool false)], args := [d1, d2] }
  | _ => none }
def TokenRunsWrongFalsely : Prop := tokenRunsRow.holds Try.pinned (OpenSpec.ofChange tokenRunsWrong)

/-- 'leatlaw05.TokenParses': WHATEVER THE INPUT: true; the input reads as it did. -/
def tokenParsesSpec : ChangeSpec := { name := "tokenParses", fn := fun _ => fun
  | [d] => { results := [.lit (.bool true)], args := [d] }
  | _ => none }
def tokenParsesRow : OpenClaim := { program := "ytjgdagiffmpkhaa", sum := "f9884c5fda97d710c589340ffe7808537272ba8b5f5a94fa232698b38d6d33b9", func := "leat/leatlaw05.TokenParses", spec := "tokenParses", apart := false }
def TokenParsesSaid : Prop := tokenParsesRow.holds Try.pinned (OpenSpec.ofChange tokenParsesSpec)

/-- ITS FALSE NEIGHBOUR: 'it returns false'. Refute it at one input. -/
def tokenParsesWrong : ChangeSpec := { name := "tokenParses", fn := fun _ => fun
  | [d] => { results := [.lit (.bool false)], args := [d] }
  | _ => none }
def TokenParsesWrongFalsely : Prop := tokenParsesRow.holds Try.pinned (OpenSpec.ofChange tokenParsesWrong)

/-- 'leatlaw05.TokenBack': WHATEVER THE INPUT: true; the input reads as it did. -/
def tokenBackSpec : ChangeSpec := { name := "tokenBack", fn := fun _ => fun
  | [d1, d2] => { results := [.lit (.bool true)], args := [d1, d2] }
  | _ => none }
def tokenBackRow : OpenClaim := { program := "ytjgdagiffmpkhaa", sum := "f9884c5fda97d710c589340ffe7808537272ba8b5f5a94fa232698b38d6d33b9", func := "leat/leatlaw05.TokenBack", spec := "tokenBack", apart := false }
def TokenBackSaid : Prop := tokenBackRow.holds Try.pinned (OpenSpec.ofChange tokenBackSpec)

/-- ITS FALSE NEIGHBOUR: 'it returns false'. Refute it at one input. -/
def tokenBackWrong : ChangeSpec := { name := "tokenBack", fn := fun _ => fun
  | [d1, d2] => { results := [.lit (.bool false)], args := [d1, d2] }
  | _ => none }
def TokenBackWrongFalsely : Prop := tokenBackRow.holds Try.pinned (OpenSpec.ofChange tokenBackWrong)

/-- 'leatlaw05.TokenMakes': WHATEVER THE INPUT: true; the input reads as it did. -/
def tokenMakesSpec : ChangeSpec := { name := "tokenMakes", fn := fun _ => fun
  | [d1, d2] => { results := [.lit (.bool true)], args := [d1, d2] }
  | _ => none }
def tokenMakesRow : OpenClaim := { program := "ytjgdagiffmpkhaa", sum := "f9884c5fda97d710c589340ffe7808537272ba8b5f5a94fa232698b38d6d33b9", func := "leat/leatlaw05.TokenMakes", spec := "tokenMakes", apart := false }
def TokenMakesSaid : Prop := tokenMakesRow.holds Try.pinned (OpenSpec.ofChange tokenMakesSpec)

/-- ITS FALSE NEIGHBOUR: 'it returns false'. Refute it at one input. -/
def tokenMakesWrong : ChangeSpec := { name := "tokenMakes", fn := fun _ => fun
  | [d1, d2] => { results := [.lit (.bool false)], args := [d1, d2] }
  | _ => none }
def TokenMakesWrongFalsely : Prop := tokenMakesRow.holds Try.pinned (OpenSpec.ofChange tokenMakesWrong)

/- THE SECOND FORM. 'bulk': how many values and letters a reading holds, each counted each time it is reached (what is shared counts as often as it is met; a slice's spare places count too). A statement '..UptoSaid' is the law's where the arguments, and the package variables that the reading takes, are together of bulk at most 1048576: NARROWER than '..Said'. Prove '..Said' where nothing that the law and all that it calls make is longer than what came in: it says more and counts as full. Else prove '..UptoSaid'. A law counts once. -/
mutual
def uptoBulk {H : Type} : DataW H → Nat
  | .lit (.string bytes) => bytes.length + 1
  | .lit _ => 1
  | .nil => 1
  | .ptr d => uptoBulk d + 1
  | .slice elems spare => uptoBulkAll elems + uptoBulkAll spare + 1
  | .agg parts => uptoBulkAll parts + 1
  | .iface _ d => uptoBulk d + 1
  | .map entries => uptoBulkEntries entries + 1
  | .held _ => 1
def uptoBulkAll {H : Type} : List (DataW H) → Nat
  | [] => 0
  | d :: r => uptoBulk d + uptoBulkAll r
def uptoBulkEntries {H : Type} : List (Lit × DataW H) → Nat
  | [] => 0
  | x :: r => uptoBulkEntry x + uptoBulkEntries r
def uptoBulkEntry {H : Type} : Lit × DataW H → Nat
  | (.string bytes, d) => bytes.length + uptoBulk d + 1
  | (_, d) => uptoBulk d + 1
 end
def uptoSmall : (H : Type) → List (DataW H) → Bool := fun _ ds => decide (uptoBulkAll ds ≤ 1048576)
def OpenSpec.upto (s : _root_.Go.ChangeSpec) : _root_.Go.OpenSpec := { _root_.Go.OpenSpec.ofChange s with cond := some uptoSmall }

/-- 'leatlaw05.TokenPrints', WHERE WHAT IT READS IS OF BULK AT MOST 1048576: true; the input reads as it did. -/
def tokenPrintsUptoRow : OpenClaim := { program := "ytjgdagiffmpkhaa", sum := "f9884c5fda97d710c589340ffe7808537272ba8b5f5a94fa232698b38d6d33b9", func := "leat/leatlaw05.TokenPrints", spec := "tokenPrints", apart := false, narrowed := true }
def TokenPrintsUptoSaid : Prop := tokenPrintsUptoRow.holds Try.pinned (OpenSpec.upto tokenPrintsSpec)

/-- 'leatlaw05.TokenExpands', WHERE WHAT IT READS IS OF BULK AT MOST 1048576: true; the input reads as it did. -/
def tokenExpandsUptoRow : OpenClaim := { program := "ytjgdagiffmpkhaa", sum := "f9884c5fda97d710c589340ffe7808537272ba8b5f5a94fa232698b38d6d33b9", func := "leat/leatlaw05.TokenExpands", spec := "tokenExpands", apart := false, narrowed := true }
def TokenExpandsUptoSaid : Prop := tokenExpandsUptoRow.holds Try.pinned (OpenSpec.upto tokenExpandsSpec)

/-- 'leatlaw05.TokenRuns', WHERE WHAT IT READS IS OF BULK AT MOST 1048576: true; the input reads as it did. -/
def tokenRunsUptoRow : OpenClaim := { program := "ytjgdagiffmpkhaa", sum := "f9884c5fda97d710c589340ffe7808537272ba8b5f5a94fa232698b38d6d33b9", func := "leat/leatlaw05.TokenRuns", spec := "tokenRuns", apart := false, narrowed := true }
def TokenRunsUptoSaid : Prop := tokenRunsUptoRow.holds Try.pinned (OpenSpec.upto tokenRunsSpec)

/-- 'leatlaw05.TokenParses', WHERE WHAT IT READS IS OF BULK AT MOST 1048576: true; the input reads as it did. -/
def tokenParsesUptoRow : OpenClaim := { program := "ytjgdagiffmpkhaa", sum := "f9884c5fda97d710c589340ffe7808537272ba8b5f5a94fa232698b38d6d33b9", func := "leat/leatlaw05.TokenParses", spec := "tokenParses", apart := false, narrowed := true }
def TokenParsesUptoSaid : Prop := tokenParsesUptoRow.holds Try.pinned (OpenSpec.upto tokenParsesSpec)

/-- 'leatlaw05.TokenBack', WHERE WHAT IT READS IS OF BULK AT MOST 1048576: true; the input reads as it did. -/
def tokenBackUptoRow : OpenClaim := { program := "ytjgdagiffmpkhaa", sum := "f9884c5fda97d710c589340ffe7808537272ba8b5f5a94fa232698b38d6d33b9", func := "leat/leatlaw05.TokenBack", spec := "tokenBack", apart := false, narrowed := true }
def TokenBackUptoSaid : Prop := tokenBackUptoRow.holds Try.pinned (OpenSpec.upto tokenBackSpec)

/-- 'leatlaw05.TokenMakes', WHERE WHAT IT READS IS OF BULK AT MOST 1048576: true; the input reads as it did. -/
def tokenMakesUptoRow : OpenClaim := { program := "ytjgdagiffmpkhaa", sum := "f9884c5fda97d710c589340ffe7808537272ba8b5f5a94fa232698b38d6d33b9", func := "leat/leatlaw05.TokenMakes", spec := "tokenMakes", apart := false, narrowed := true }
def TokenMakesUptoSaid : Prop := tokenMakesUptoRow.holds Try.pinned (OpenSpec.upto tokenMakesSpec)

end Rows
end Go.Proofs.Ytjgdagiffmpkhaa
