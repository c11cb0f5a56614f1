/-
  No cell of these rows narrows 'for every input' (looked for: loops, veiled, ifaces, maps, wideKeys, modest, calm, conditions, laid).
  DERIVED. THE GIVEN ROWS OF THIS SEAT. 6 by the template 'for every input the law returns true; each argument reads behind the call as it read before'; 0 by the template 'total and deterministic' (their statements: YtoccmjhgmoandaaTotals.lean).
  GIVEN WITH THE SEED: the statements are not yours to turn. If you find one false, say at which input.
  Laid BY PROGRAM, IN A SANDBOX (cutbox-rows.mjs): the forced cells as the released guide's own fill.sh prints them over the translation a0526a46488c52f7… (all of the seat's roots in one cut). By AI agents, Wed Nov 11 2026. No macro, syntax, notation, axiom, sorry.
-/
import Derived.Test.YtoccmjhgmoandaaChecked
import GoSem.Claim
import GoSem.ClaimJoined
import GoSem.ClaimMapViews
import Derived.JoinedTies
import Derived.KernelRfl
namespace Go.Proofs.Ytoccmjhgmoandaa
/- THE CELL 'sum', in the pinned program and in every row, IS THE sha256 OF THE DUMP (.gsa) THAT YtoccmjhgmoandaaProg.lean LOADS. Nothing in Lean hashes anything: it is a label: what it is worth is what the hold of that sum in a sandbox is worth. -/
noncomputable def Try.pinned : Pinned := { name := "ytoccmjhgmoandaa", sum := "a0526a46488c52f7f5207c55a1deedfd507e9ba6a9410bc4b434d628dae44623", checked := Try.checked }
namespace Rows
def none {H : Type} : Left H := { results := [], args := [] }

/-- 'leatlaw17.FrameFeeds': WHATEVER THE INPUT: true; the input reads as it did. -/
def frameFeedsSpec : ChangeSpec := { name := "frameFeeds", fn := fun _ => fun
  | [d1, d2] => { results := [.lit (.bool true)], args := [d1, d2] }
  | _ => none }
def frameFeedsRow : OpenClaim := { program := "ytoccmjhgmoandaa", sum := "a0526a46488c52f7f5207c55a1deedfd507e9ba6a9410bc4b434d628dae44623", func := "leat/leatlaw17.FrameFeeds", spec := "frameFeeds", apart := false }
def FrameFeedsSaid : Prop := frameFeedsRow.holds Try.pinned (OpenSpec.ofChange frameFeedsSpec)

/-- ITS FALSE NEIGHBOUR: 'it returns false'. Refute it at one input. -/
def frameFeedsWrong : ChangeSpec := { name := "frameFeeds", fn := fun _ => fun
  | [d1, d2] => { results := [.lit (.bool false)], args := [d1, d2] }
  | _ => none }
def FrameFeedsWrongFalsely : Prop := frameFeedsRow.holds Try.pinned (OpenSpec.ofChange frameFeedsWrong)

/-- 'leatlaw17.FrameHolds': WHATEVER THE INPUT: true; the input reads as it did. -/
def frameHoldsSpec : ChangeSpec := { name := "frameHolds", fn := fun _ => fun
  | [d1, d2] => { results := [.lit (.bool true)], args := [d1, d2] }
  | _ => none }
def frameHoldsRow : OpenClaim := { program := "ytoccmjhgmoandaa", sum := "a0526a46488c52f7f5207c55a1deedfd507e9ba6a9410bc4b434d628dae44623", func := "leat/leatlaw17.FrameHolds", spec := "frameHolds", apart := false }
def FrameHoldsSaid : Prop := frameHoldsRow.holds Try.pinned (OpenSpec.ofChange frameHoldsSpec)

/-- ITS FALSE NEIGHBOUR: 'it returns false'. Refute it at one input. -/
def frameHoldsWrong : ChangeSpec := { name := "frameHolds", fn := fun _ => fun
  | [d1, d2] => { results := [.lit (.bool false)], args := [d1, d2] }
  | _ => none }
def FrameHoldsWrongFalsely : Prop := frameHoldsRow.holds Try.pinned (OpenSpec.ofChange frameHoldsWrong)

/-- 'leatlaw17.FrameBack': WHATEVER THE INPUT: true; the input reads as it did. -/
def frameBackSpec : ChangeSpec := { name := "frameBack", fn := fun _ => fun
  | [d1, d2, d3] => { results := [.lit (.bool true)], args := [d1, d2, d3] }
  | _ => none }
def frameBackRow : OpenClaim := { program := "ytoccmjhgmoandaa", sum := "a0526a46488c52f7f5207c55a1deedfd507e9ba6a9410bc4b434d628dae44623", func := "leat/leatlaw17.FrameBack", spec := "frameBack", apart := false }
def FrameBackSaid : Prop := frameBackRow.holds Try.pinned (OpenSpec.ofChange frameBackSpec)

/-- ITS FALSE NEIGHBOUR: 'it returns false'. Refute it at one input. -/
def frameBackWrong : ChangeSpec := { name := "frameBack", fn := fun _ => fun
  | [d1, d2, d3] => { results := [.lit (.bool false)], args := [d1, d2, d3] }
  | _ => none }
def FrameBackWrongFalsely : Prop := frameBackRow.holds Try.pinned (OpenSpec.ofChange frameBackWrong)

/-- 'leatlaw17.FrameMemory': WHATEVER THE INPUT: true; the input reads as it did. -/
def frameMemorySpec : ChangeSpec := { name := "frameMemory", fn := fun _ => fun
  | [d1, d2] => { results := [.lit (.bool true)], args := [d1, d2] }
  | _ => none }
def frameMemoryRow : OpenClaim := { program := "ytoccmjhgmoandaa", sum := "a0526a46488c52f7f5207c55a1deedfd507e9ba6a9410bc4b434d628dae44623", func := "leat/leatlaw17.FrameMemory", spec := "frameMemory", apart := false }
def FrameMemorySaid : Prop := frameMemoryRow.holds Try.pinned (OpenSpec.ofChange frameMemorySpec)

/-- ITS FALSE NEIGHBOUR: 'it returns false'. Refute it at one input. -/
def frameMemoryWrong : ChangeSpec := { name := "frameMemory", fn := fun _ => fun
  | [d1, d2] => { results := [.lit (.bool false)], args := [d1, d2] }
  | _ => none }
def FrameMemoryWrongFalsely : Prop := frameMemoryRow.holds Try.pinned (OpenSpec.ofChange frameMemoryWrong)

/-- 'leatlaw17.FrameSplits': WHATEVER THE INPUT: true; the input reads as it did. -/
def frameSplitsSpec : ChangeSpec := { name := "frameSplits", fn := fun _ => fun
  | [d1, d2] => { results := [.lit (.bool true)], args := [d1, d2] }
  | _ => none }
def frameSplitsRow : OpenClaim := { program := "ytoccmjhgmoandaa", sum := "a0526a46488c52f7f5207c55a1deedfd507e9ba6a9410bc4b434d628dae44623", func := "leat/leatlaw17.FrameSplits", spec := "frameSplits", apart := false }
def FrameSplitsSaid : Prop := frameSplitsRow.holds Try.pinned (OpenSpec.ofChange frameSplitsSpec)

/-- ITS FALSE NEIGHBOUR: 'it returns false'. Refute it at one input. -/
def frameSplitsWrong : ChangeSpec := { name := "frameSplits", fn := fun _ => fun
  | [d1, d2] => { results := [.lit (.bool false)], args := [d1, d2] }
  | _ => none }
def FrameSplitsWrongFalsely : Prop := frameSplitsRow.holds Try.pinned (OpenSpec.ofChange frameSplitsWrong)

/-- 'leatlaw17.FramePuts': WHATEVER THE INPUT: true; the input reads as it did. -/
def framePutsSpec : ChangeSpec := { name := "framePuts", fn := fun _ => fun
  | [d1, d2] => { results := [.lit (.bool true)], args := [d1, d2] }
  | _ => none }
def framePutsRow : OpenClaim := { program := "ytoccmjhgmoandaa", sum := "a0526a46488c52f7f5207c55a1deedfd507e9ba6a9410bc4b434d628dae44623", func := "leat/leatlaw17.FramePuts", spec := "framePuts", apart := false }
def FramePutsSaid : Prop := framePutsRow.holds Try.pinned (OpenSpec.ofChange framePutsSpec)

/-- ITS FALSE NEIGHBOUR: 'it returns false'. Refute it at one input. -/
def framePutsWrong : ChangeSpec := { name := "framePuts", fn := fun _ => fun
  | [d1, d2] => { results := [.lit (.bool false)], args := [d1, d2] }
  | _ => none }
def FramePutsWrongFalsely : Prop := framePutsRow.holds Try.pinned (OpenSpec.ofChange framePutsWrong)

/- THE SECOND FORM. 'bulk': how many values and letters a reading holds, each counted each time it is reached (what is shared counts as often as it is met; a slice's spare places count too). A statement '..UptoSaid' is the law's where the arguments, and the package variables that the reading takes, are together of bulk at most 1048576: NARROWER than '..Said'. Prove '..Said' where nothing that the law and all that it calls make is longer than what came in: it says more and counts as full. Else prove '..UptoSaid'. A law counts once. -/
mutual
def uptoBulk {H : Type} : DataW H → Nat
  | .lit (.string bytes) => bytes.length + 1
  | .lit _ => 1
  | .nil => 1
  | .ptr d => uptoBulk d + 1
  | .slice elems spare => uptoBulkAll elems + uptoBulkAll spare + 1
  | .agg parts => uptoBulkAll parts + 1
  | .iface _ d => uptoBulk d + 1
  | .map entries => uptoBulkEntries entries + 1
  | .held _ => 1
def uptoBulkAll {H : Type} : List (DataW H) → Nat
  | [] => 0
  | d :: r => uptoBulk d + uptoBulkAll r
def uptoBulkEntries {H : Type} : List (Lit × DataW H) → Nat
  | [] => 0
  | x :: r => uptoBulkEntry x + uptoBulkEntries r
def uptoBulkEntry {H : Type} : Lit × DataW H → Nat
  | (.string bytes, d) => bytes.length + uptoBulk d + 1
  | (_, d) => uptoBulk d + 1
 end
def uptoSmall : (H : Type) → List (DataW H) → Bool := fun _ ds => decide (uptoBulkAll ds ≤ 1048576)
def OpenSpec.upto (s : _root_.Go.ChangeSpec) : _root_.Go.OpenSpec := { _root_.Go.OpenSpec.ofChange s with cond := some uptoSmall }

/-- 'leatlaw17.FrameFeeds', WHERE WHAT IT READS IS OF BULK AT MOST 1048576: true; the input reads as it did. -/
def frameFeedsUptoRow : OpenClaim := { program := "ytoccmjhgmoandaa", sum := "a0526a46488c52f7f5207c55a1deedfd507e9ba6a9410bc4b434d628dae44623", func := "leat/leatlaw17.FrameFeeds", spec := "frameFeeds", apart := false, narrowed := true }
def FrameFeedsUptoSaid : Prop := frameFeedsUptoRow.holds Try.pinned (OpenSpec.upto frameFeedsSpec)

/-- 'leatlaw17.FrameHolds', WHERE WHAT IT READS IS OF BULK AT MOST 1048576: true; the input reads as it did. -/
def frameHoldsUptoRow : OpenClaim := { program := "ytoccmjhgmoandaa", sum := "a0526a46488c52f7f5207c55a1deedfd507e9ba6a9410bc4b434d628dae44623", func := "leat/leatlaw17.FrameHolds", spec := "frameHolds", apart := false, narrowed := true }
def FrameHoldsUptoSaid : Prop := frameHoldsUptoRow.holds Try.pinned (OpenSpec.upto frameHoldsSpec)

/-- 'leatlaw17.FrameBack', WHERE WHAT IT READS IS OF BULK AT MOST 1048576: true; the input reads as it did. -/
def frameBackUptoRow : OpenClaim := { program := "ytoccmjhgmoandaa", sum := "a0526a46488c52f7f5207c55a1deedfd507e9ba6a9410bc4b434d628dae44623", func := "leat/leatlaw17.FrameBack", spec := "frameBack", apart := false, narrowed := true }
def FrameBackUptoSaid : Prop := frameBackUptoRow.holds Try.pinned (OpenSpec.upto frameBackSpec)

/-- 'leatlaw17.FrameMemory', WHERE WHAT IT READS IS OF BULK AT MOST 1048576: true; the input reads as it did. -/
def frameMemoryUptoRow : OpenClaim := { program := "ytoccmjhgmoandaa", sum := "a0526a46488c52f7f5207c55a1deedfd507e9ba6a9410bc4b434d628dae44623", func := "leat/leatlaw17.FrameMemory", spec := "frameMemory", apart := false, narrowed := true }
def FrameMemoryUptoSaid : Prop := frameMemoryUptoRow.holds Try.pinned (OpenSpec.upto frameMemorySpec)

/-- 'leatlaw17.FrameSplits', WHERE WHAT IT READS IS OF BULK AT MOST 1048576: true; the input reads as it did. -/
def frameSplitsUptoRow : OpenClaim := { program := "ytoccmjhgmoandaa", sum := "a0526a46488c52f7f5207c55a1deedfd507e9ba6a9410bc4b434d628dae44623", func := "leat/leatlaw17.FrameSplits", spec := "frameSplits", apart := false, narrowed := true }
def FrameSplitsUptoSaid : Prop := frameSplitsUptoRow.holds Try.pinned (OpenSpec.upto frameSplitsSpec)

/-- 'leatlaw17.FramePuts', WHERE WHAT IT READS IS OF BULK AT MOST 1048576: true; the input reads as it did. -/
def framePutsUptoRow : OpenClaim := { program := "ytoccmjhgmoandaa", sum := "a0526a46488c52f7f5207c55a1deedfd507e9ba6a9410bc4b434d628dae44623", func := "leat/leatlaw17.FramePuts", spec := "framePuts", apart := false, narrowed := true }
def FramePutsUptoSaid : Prop := framePutsUptoRow.holds Try.pinned (OpenSpec.upto framePutsSpec)

end Rows
end Go.Proofs.Ytoccmjhgmoandaa
