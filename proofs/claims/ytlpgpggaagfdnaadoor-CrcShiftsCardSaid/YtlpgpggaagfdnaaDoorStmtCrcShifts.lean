-- Written by a program of this workplace's own (wip/rows/mkrow.py). Not trusted: Lean checks it.
import Derived.Test.YtlpgpggaagfdnaaDoorQx6
namespace Go.Proofs.YtlpgpggaagfdnaaDoor.CrcShifts
open Go.RowKit Go.Proofs.YtlpgpggaagfdnaaDoorW.PrintWords Go.Proofs.YtlpgpggaagfdnaaDoor.Q
def small : Prop := ∀ (a0 : Int), (fun n => (Lit.int .u32 n).wf = true) a0 → ∀ (a1 : Int), (fun n => (Lit.int .u32 n).wf = true) a1 → ∀ (a2 : Int), (fun n => (Lit.int .i64 n).wf = true) a2 → ∃ k, leatlaw03_CrcShifts.f k a0 a1 a2 = some true
end Go.Proofs.YtlpgpggaagfdnaaDoor.CrcShifts
