-- Printed by a program of this workplace's own (wip/print), out of the translation. Not trusted: Lean checks it.
import Derived.Test.YthkbnmlelolljaaProg
import Derived.Below
import Derived.Deep.Draws
import Derived.Deep.AppendLies
import Derived.Maps.AppendAt
import Derived.OwnWalk
import Derived.Laws.BytesArg
import Derived.Laws.MakeOwn
import Derived.Laws.OwnMore
import Derived.Deep.OwnRows
import Derived.Tactics
import Derived.Lib.ConvBytes
import Derived.Laws.Slices
import Derived.WalkKit
import Derived.KernelRfl
import Derived.RowKit3
import Derived.Deep.LoopGhost
import Derived.Deep.QuietTactic
import Derived.BigQuiet
import Derived.WideLaws
import Derived.Deep.DeepCutAuto
import Derived.Deep.CutBlock
import Derived.Deep.RegionHeld3
import Derived.Laws.Rows
import Derived.Lib.AppendStr
import Derived.ArgAppend
import Derived.Laws.IdiomCopy
import Derived.OrdersHeld
import Derived.Laws.BitsLemmas
import Derived.RowKit
import Derived.Test.YthkbnmlelolljaaWWords
import Derived.Test.YthkbnmlelolljaaWLast
import Derived.Test.YthkbnmlelolljaaWTab
import Derived.Test.YthkbnmlelolljaaWFour
import Derived.Test.YthkbnmlelolljaaWQPut
import Derived.Test.YthkbnmlelolljaaWApart
import Derived.Test.YthkbnmlelolljaaWArr
import Derived.Test.YthkbnmlelolljaaWZeros
import Derived.Test.YthkbnmlelolljaaWFoot
import Derived.Test.YthkbnmlelolljaaWKept
import Derived.Test.YthkbnmlelolljaaWShare
import Derived.Test.YthkbnmlelolljaaWN
import Derived.Test.YthkbnmlelolljaaWFootNe
import Derived.Test.YthkbnmlelolljaaWAt
import Derived.Test.YthkbnmlelolljaaWEqStruct
import Derived.Test.YthkbnmlelolljaaWRepsOne
import Derived.Test.YthkbnmlelolljaaWInv
import Derived.Test.YthkbnmlelolljaaWInvWords
import Derived.Test.YthkbnmlelolljaaWGuard
import Derived.Test.YthkbnmlelolljaaWNEv
import Derived.Test.YthkbnmlelolljaaWMore
namespace Go.Proofs.Ythkbnmlelolljaa.Q
open Go.RowKit Go.Proofs.YthkbnmlelolljaaW.PrintWords Go.Proofs.YthkbnmlelolljaaW.PrintLast Go.Proofs.YthkbnmlelolljaaW.PrintMore
attribute [local go_sem] max2_int min2_int max_two min_two max_three min_three max_four min_four   -- for this text's walks alone
set_option linter.unusedVariables false
set_option linter.unusedSimpArgs false



def errW : Option Int → Value
  | none => .nilIface
  | some c => .iface 0 (.int .i64 c)
theorem errW_none : errW none = .nilIface := rfl
theorem errW_some (c : Int) : errW (some c) = .iface 0 (.int .i64 c) := rfl

theorem info2 : (Try.prog.info? 2).map (fun i => (i.zero, i.size, i.bytes)) = some (some (.int .i64 0), 1, 8) := by kernel_rfl
theorem info5 : (Try.prog.info? 5).map (fun i => (i.zero, i.size, i.bytes)) = some (some (.int .u8 0), 1, 1) := by kernel_rfl
-- the values' own types

end Go.Proofs.Ythkbnmlelolljaa.Q
