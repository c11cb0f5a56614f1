/-
  NARROWER THAN 'FOR EVERY INPUT', by the rows' own cells (each row's printed sentence says how): CrcSums: laid · CrcTells: laid · CrcMixes: laid · CrcRows: laid · CrcTails: laid · CrcLinks: laid · CrcShifts: laid.
  DERIVED. THE GIVEN ROWS OF THIS SEAT. 7 by the template 'for every input the law returns true; each argument reads behind the call as it read before'; 0 by the template 'total and deterministic' (their statements: YtlpgpggaagfdnaaDoorTotals.lean).
  GIVEN WITH THE SEED: the statements are not yours to turn. If you find one false, say at which input.
  Laid BY PROGRAM, IN A SANDBOX (cutbox-rows.mjs): the forced cells as the released guide's own fill.sh prints them over the translation 402fb10e29abb939… (all of the seat's roots in one cut). By AI agents, Wed Nov 11 2026. No macro, syntax, notation, axiom, sorry.
-/
import Derived.Test.YtlpgpggaagfdnaaDoorChecked
import GoSem.Claim
import GoSem.ClaimJoined
import GoSem.ClaimMapViews
import Derived.JoinedTies
import Derived.KernelRfl
namespace Go.Proofs.YtlpgpggaagfdnaaDoor
/- THE CELL 'sum', in the pinned program and in every row, IS THE sha256 OF THE DUMP (.gsa) THAT YtlpgpggaagfdnaaDoorProg.lean LOADS. Nothing in Lean hashes anything: it is a label: what it is worth is what the hold of that sum in a sandbox is worth. -/
noncomputable def Tryd.pinned : Pinned := { name := "ytlpgpggaagfdnaadoor", sum := "402fb10e29abb9395e51548105f2e7a3ca10dde1372de534a6b8af80fd026b77", checked := Tryd.checked }
namespace Rows
def none {H : Type} : Left H := { results := [], args := [] }

/- WHAT THE LISTED PACKAGE-LEVEL VARIABLES READ AS WHEN THE CALL BEGINS. Each datum BY PROGRAM (the guide's laid-datum.mjs) off the statement by which the dump's own 'gosem.cut.vars' lays the variable. In a bare row this is a premise. The card (YtlpgpggaagfdnaaDoorCards.lean) ties it to the program's text. -/
def laid_leat_crc_rows {H : Type} : DataW H := .agg [.lit (.int .u32 0), .lit (.int .u32 274646895), .lit (.int .u32 549293790), .lit (.int .u32 820201905), .lit (.int .u32 1098587580), .lit (.int .u32 1361435347), .lit (.int .u32 1640403810), .lit (.int .u32 1905808397), .lit (.int .u32 2197175160), .lit (.int .u32 2460548119), .lit (.int .u32 2722870694), .lit (.int .u32 2987750089), .lit (.int .u32 3280807620), .lit (.int .u32 3553878443), .lit (.int .u32 3811616794), .lit (.int .u32 4084100981)]

/-- 'leatlaw03.CrcSums': WHATEVER THE INPUT: true; the input reads as it did. -/
def crcSumsSpec : ChangeSpec := { name := "crcSums", fn := fun _ => fun
  | [d1, d2] => { results := [.lit (.bool true)], args := [d1, d2] }
  | _ => none }
def crcSumsRow : OpenClaim := { program := "ytlpgpggaagfdnaadoor", sum := "402fb10e29abb9395e51548105f2e7a3ca10dde1372de534a6b8af80fd026b77", func := "leat/leatlaw03.CrcSums", spec := "crcSums", named := ["leat/crc.rows"], apart := false, laid := [("leat/crc.rows", laid_leat_crc_rows)] }
def CrcSumsSaid : Prop := crcSumsRow.holds Tryd.pinned (OpenSpec.ofChange crcSumsSpec)

/-- ITS FALSE NEIGHBOUR: 'it returns false'. Refute it at one input. -/
def crcSumsWrong : ChangeSpec := { name := "crcSums", fn := fun _ => fun
  | [d1, d2] => { results := [.lit (.bool false)], args := [d1, d2] }
  | _ => none }
def CrcSumsWrongFalsely : Prop := crcSumsRow.holds Tryd.pinned (OpenSpec.ofChange crcSumsWrong)

/-- 'leatlaw03.CrcTells': WHATEVER THE INPUT: true; the input reads as it did. -/
def crcTellsSpec : ChangeSpec := { name := "crcTells", fn := fun _ => fun
  | [d1, d2, d3, d4] => { results := [.lit (.bool true)], args := [d1, d2, d3, d4] }
  | _ => none }
def crcTellsRow : OpenClaim := { program := "ytlpgpggaagfdnaadoor", sum := "402fb10e29abb9395e51548105f2e7a3ca10dde1372de534a6b8af80fd026b77", func := "leat/leatlaw03.CrcTells", spec := "crcTells", named := ["leat/crc.rows"], apart := false, laid := [("leat/crc.rows", laid_leat_crc_rows)] }
def CrcTellsSaid : Prop := crcTellsRow.holds Tryd.pinned (OpenSpec.ofChange crcTellsSpec)

/-- ITS FALSE NEIGHBOUR: 'it returns false'. Refute it at one input. -/
def crcTellsWrong : ChangeSpec := { name := "crcTells", fn := fun _ => fun
  | [d1, d2, d3, d4] => { results := [.lit (.bool false)], args := [d1, d2, d3, d4] }
  | _ => none }
def CrcTellsWrongFalsely : Prop := crcTellsRow.holds Tryd.pinned (OpenSpec.ofChange crcTellsWrong)

/-- 'leatlaw03.CrcMixes': WHATEVER THE INPUT: true; the input reads as it did. -/
def crcMixesSpec : ChangeSpec := { name := "crcMixes", fn := fun _ => fun
  | [d] => { results := [.lit (.bool true)], args := [d] }
  | _ => none }
def crcMixesRow : OpenClaim := { program := "ytlpgpggaagfdnaadoor", sum := "402fb10e29abb9395e51548105f2e7a3ca10dde1372de534a6b8af80fd026b77", func := "leat/leatlaw03.CrcMixes", spec := "crcMixes", named := ["leat/crc.rows"], apart := false, laid := [("leat/crc.rows", laid_leat_crc_rows)] }
def CrcMixesSaid : Prop := crcMixesRow.holds Tryd.pinned (OpenSpec.ofChange crcMixesSpec)

/-- ITS FALSE NEIGHBOUR: 'it returns false'. Refute it at one input. -/
def crcMixesWrong : ChangeSpec := { name := "crcMixes", fn := fun _ => fun
  | [d] => { results := [.lit (.bool false)], args := [d] }
  | _ => none }
def CrcMixesWrongFalsely : Prop := crcMixesRow.holds Tryd.pinned (OpenSpec.ofChange crcMixesWrong)

/-- 'leatlaw03.CrcRows': WHATEVER THE INPUT: true; the input reads as it did. -/
def crcRowsSpec : ChangeSpec := { name := "crcRows", fn := fun _ => fun
  | [d] => { results := [.lit (.bool true)], args := [d] }
  | _ => none }
def crcRowsRow : OpenClaim := { program := "ytlpgpggaagfdnaadoor", sum := "402fb10e29abb9395e51548105f2e7a3ca10dde1372de534a6b8af80fd026b77", func := "leat/leatlaw03.CrcRows", spec := "crcRows", named := ["leat/crc.rows"], apart := false, laid := [("leat/crc.rows", laid_leat_crc_rows)] }
def CrcRowsSaid : Prop := crcRowsRow.holds Tryd.pinned (OpenSpec.ofChange crcRowsSpec)

/-- ITS FALSE NEIGHBOUR: 'it returns false'. Refute it at one input. -/
def crcRowsWrong : ChangeSpec := { name := "crcRows", fn := fun _ => fun
  | [d] => { results := [.lit (.bool false)], args := [d] }
  | _ => none }
def CrcRowsWrongFalsely : Prop := crcRowsRow.holds Tryd.pinned (OpenSpec.ofChange crcRowsWrong)

/-- 'leatlaw03.CrcTails': WHATEVER THE INPUT: true; the input reads as it did. -/
def crcTailsSpec : ChangeSpec := { name := "crcTails", fn := fun _ => fun
  | [d1, d2, d3] => { results := [.lit (.bool true)], args := [d1, d2, d3] }
  | _ => none }
def crcTailsRow : OpenClaim := { program := "ytlpgpggaagfdnaadoor", sum := "402fb10e29abb9395e51548105f2e7a3ca10dde1372de534a6b8af80fd026b77", func := "leat/leatlaw03.CrcTails", spec := "crcTails", named := ["leat/crc.rows"], apart := false, laid := [("leat/crc.rows", laid_leat_crc_rows)] }
def CrcTailsSaid : Prop := crcTailsRow.holds Tryd.pinned (OpenSpec.ofChange crcTailsSpec)

/-- ITS FALSE NEIGHBOUR: 'it returns false'. Refute it at one input. -/
def crcTailsWrong : ChangeSpec := { name := "crcTails", fn := fun _ => fun
  | [d1, d2, d3] => { results := [.lit (.bool false)], args := [d1, d2, d3] }
  | _ => none }
def CrcTailsWrongFalsely : Prop := crcTailsRow.holds Tryd.pinned (OpenSpec.ofChange crcTailsWrong)

/-- 'leatlaw03.CrcLinks': WHATEVER THE INPUT: true; the input reads as it did. -/
def crcLinksSpec : ChangeSpec := { name := "crcLinks", fn := fun _ => fun
  | [d1, d2, d3] => { results := [.lit (.bool true)], args := [d1, d2, d3] }
  | _ => none }
def crcLinksRow : OpenClaim := { program := "ytlpgpggaagfdnaadoor", sum := "402fb10e29abb9395e51548105f2e7a3ca10dde1372de534a6b8af80fd026b77", func := "leat/leatlaw03.CrcLinks", spec := "crcLinks", named := ["leat/crc.rows"], apart := false, laid := [("leat/crc.rows", laid_leat_crc_rows)] }
def CrcLinksSaid : Prop := crcLinksRow.holds Tryd.pinned (OpenSpec.ofChange crcLinksSpec)

/-- ITS FALSE NEIGHBOUR: 'it returns false'. Refute it at one input. -/
def crcLinksWrong : ChangeSpec := { name := "crcLinks", fn := fun _ => fun
  | [d1, d2, d3] => { results := [.lit (.bool false)], args := [d1, d2, d3] }
  | _ => none }
def CrcLinksWrongFalsely : Prop := crcLinksRow.holds Tryd.pinned (OpenSpec.ofChange crcLinksWrong)

/-- 'leatlaw03.CrcShifts': WHATEVER THE INPUT: true; the input reads as it did. -/
def crcShiftsSpec : ChangeSpec := { name := "crcShifts", fn := fun _ => fun
  | [d1, d2, d3] => { results := [.lit (.bool true)], args := [d1, d2, d3] }
  | _ => none }
def crcShiftsRow : OpenClaim := { program := "ytlpgpggaagfdnaadoor", sum := "402fb10e29abb9395e51548105f2e7a3ca10dde1372de534a6b8af80fd026b77", func := "leat/leatlaw03.CrcShifts", spec := "crcShifts", named := ["leat/crc.rows"], apart := false, laid := [("leat/crc.rows", laid_leat_crc_rows)] }
def CrcShiftsSaid : Prop := crcShiftsRow.holds Tryd.pinned (OpenSpec.ofChange crcShiftsSpec)

/-- ITS FALSE NEIGHBOUR: 'it returns false'. Refute it at one input. -/
def crcShiftsWrong : ChangeSpec := { name := "crcShifts", fn := fun _ => fun
  | [d1, d2, d3] => { results := [.lit (.bool false)], args := [d1, d2, d3] }
  | _ => none }
def CrcShiftsWrongFalsely : Prop := crcShiftsRow.holds Tryd.pinned (OpenSpec.ofChange crcShiftsWrong)

/- THE SECOND FORM. 'bulk': how many values and letters a reading holds, each counted each time it is reached (what is shared counts as often as it is met; a slice's spare places count too). A statement '..UptoSaid' is the law's where the arguments, and the package variables that the reading takes, are together of bulk at most 1048576: NARROWER than '..Said'. Prove '..Said' where nothing that the law and all that it calls make is longer than what came in: it says more and counts as full. Else prove '..UptoSaid'. A law counts once. -/
mutual
def uptoBulk {H : Type} : DataW H → Nat
  | .lit (.string bytes) => bytes.length + 1
  | .lit _ => 1
  | .nil => 1
  | .ptr d => uptoBulk d + 1
  | .slice elems spare => uptoBulkAll elems + uptoBulkAll spare + 1
  | .agg parts => uptoBulkAll parts + 1
  | .iface _ d => uptoBulk d + 1
  | .map entries => uptoBulkEntries entries + 1
  | .held _ => 1
def uptoBulkAll {H : Type} : List (DataW H) → Nat
  | [] => 0
  | d :: r => uptoBulk d + uptoBulkAll r
def uptoBulkEntries {H : Type} : List (Lit × DataW H) → Nat
  | [] => 0
  | x :: r => uptoBulkEntry x + uptoBulkEntries r
def uptoBulkEntry {H : Type} : Lit × DataW H → Nat
  | (.string bytes, d) => bytes.length + uptoBulk d + 1
  | (_, d) => uptoBulk d + 1
 end
def uptoSmall : (H : Type) → List (DataW H) → Bool := fun _ ds => decide (uptoBulkAll ds ≤ 1048576)
def OpenSpec.upto (s : _root_.Go.ChangeSpec) : _root_.Go.OpenSpec := { _root_.Go.OpenSpec.ofChange s with cond := some uptoSmall }

/-- 'leatlaw03.CrcSums', WHERE WHAT IT READS IS OF BULK AT MOST 1048576: true; the input reads as it did. -/
def crcSumsUptoRow : OpenClaim := { program := "ytlpgpggaagfdnaadoor", sum := "402fb10e29abb9395e51548105f2e7a3ca10dde1372de534a6b8af80fd026b77", func := "leat/leatlaw03.CrcSums", spec := "crcSums", named := ["leat/crc.rows"], apart := false, laid := [("leat/crc.rows", laid_leat_crc_rows)], narrowed := true }
def CrcSumsUptoSaid : Prop := crcSumsUptoRow.holds Tryd.pinned (OpenSpec.upto crcSumsSpec)

/-- 'leatlaw03.CrcTells', WHERE WHAT IT READS IS OF BULK AT MOST 1048576: true; the input reads as it did. -/
def crcTellsUptoRow : OpenClaim := { program := "ytlpgpggaagfdnaadoor", sum := "402fb10e29abb9395e51548105f2e7a3ca10dde1372de534a6b8af80fd026b77", func := "leat/leatlaw03.CrcTells", spec := "crcTells", named := ["leat/crc.rows"], apart := false, laid := [("leat/crc.rows", laid_leat_crc_rows)], narrowed := true }
def CrcTellsUptoSaid : Prop := crcTellsUptoRow.holds Tryd.pinned (OpenSpec.upto crcTellsSpec)

/-- 'leatlaw03.CrcMixes', WHERE WHAT IT READS IS OF BULK AT MOST 1048576: true; the input reads as it did. -/
def crcMixesUptoRow : OpenClaim := { program := "ytlpgpggaagfdnaadoor", sum := "402fb10e29abb9395e51548105f2e7a3ca10dde1372de534a6b8af80fd026b77", func := "leat/leatlaw03.CrcMixes", spec := "crcMixes", named := ["leat/crc.rows"], apart := false, laid := [("leat/crc.rows", laid_leat_crc_rows)], narrowed := true }
def CrcMixesUptoSaid : Prop := crcMixesUptoRow.holds Tryd.pinned (OpenSpec.upto crcMixesSpec)

/-- 'leatlaw03.CrcRows', WHERE WHAT IT READS IS OF BULK AT MOST 1048576: true; the input reads as it did. -/
def crcRowsUptoRow : OpenClaim := { program := "ytlpgpggaagfdnaadoor", sum := "402fb10e29abb9395e51548105f2e7a3ca10dde1372de534a6b8af80fd026b77", func := "leat/leatlaw03.CrcRows", spec := "crcRows", named := ["leat/crc.rows"], apart := false, laid := [("leat/crc.rows", laid_leat_crc_rows)], narrowed := true }
def CrcRowsUptoSaid : Prop := crcRowsUptoRow.holds Tryd.pinned (OpenSpec.upto crcRowsSpec)

/-- 'leatlaw03.CrcTails', WHERE WHAT IT READS IS OF BULK AT MOST 1048576: true; the input reads as it did. -/
def crcTailsUptoRow : OpenClaim := { program := "ytlpgpggaagfdnaadoor", sum := "402fb10e29abb9395e51548105f2e7a3ca10dde1372de534a6b8af80fd026b77", func := "leat/leatlaw03.CrcTails", spec := "crcTails", named := ["leat/crc.rows"], apart := false, laid := [("leat/crc.rows", laid_leat_crc_rows)], narrowed := true }
def CrcTailsUptoSaid : Prop := crcTailsUptoRow.holds Tryd.pinned (OpenSpec.upto crcTailsSpec)

/-- 'leatlaw03.CrcLinks', WHERE WHAT IT READS IS OF BULK AT MOST 1048576: true; the input reads as it did. -/
def crcLinksUptoRow : OpenClaim := { program := "ytlpgpggaagfdnaadoor", sum := "402fb10e29abb9395e51548105f2e7a3ca10dde1372de534a6b8af80fd026b77", func := "leat/leatlaw03.CrcLinks", spec := "crcLinks", named := ["leat/crc.rows"], apart := false, laid := [("leat/crc.rows", laid_leat_crc_rows)], narrowed := true }
def CrcLinksUptoSaid : Prop := crcLinksUptoRow.holds Tryd.pinned (OpenSpec.upto crcLinksSpec)

/-- 'leatlaw03.CrcShifts', WHERE WHAT IT READS IS OF BULK AT MOST 1048576: true; the input reads as it did. -/
def crcShiftsUptoRow : OpenClaim := { program := "ytlpgpggaagfdnaadoor", sum := "402fb10e29abb9395e51548105f2e7a3ca10dde1372de534a6b8af80fd026b77", func := "leat/leatlaw03.CrcShifts", spec := "crcShifts", named := ["leat/crc.rows"], apart := false, laid := [("leat/crc.rows", laid_leat_crc_rows)], narrowed := true }
def CrcShiftsUptoSaid : Prop := crcShiftsUptoRow.holds Tryd.pinned (OpenSpec.upto crcShiftsSpec)

end Rows
end Go.Proofs.YtlpgpggaagfdnaaDoor
