-- Written by a program of this workplace's own (wip/rows/mkrow.py). Not trusted: Lean checks it.
import Derived.Test.YtlpgpggaagfdnaaDoorQx3
namespace Go.Proofs.YtlpgpggaagfdnaaDoor.CrcRows
open Go.RowKit Go.Proofs.YtlpgpggaagfdnaaDoorW.PrintWords Go.Proofs.YtlpgpggaagfdnaaDoor.Q
def small : Prop := ∀ (a0 : Int), (fun n => (Lit.int .i64 n).wf = true) a0 → ∃ k, leatlaw03_CrcRows.f k a0 = some true
end Go.Proofs.YtlpgpggaagfdnaaDoor.CrcRows
