-- Written by a program of this workplace's own (wip/rows/mkrow.py). Not trusted: Lean checks it.
import Derived.Test.YtlpgpggaagfdnaaDoorQx5
namespace Go.Proofs.YtlpgpggaagfdnaaDoor.CrcTails
open Go.RowKit Go.Proofs.YtlpgpggaagfdnaaDoorW.PrintWords Go.Proofs.YtlpgpggaagfdnaaDoor.Q
def small : Prop := ∀ (a0 : Int), (fun n => (Lit.int .u32 n).wf = true) a0 → ∀ (a1 : Int), (fun n => (Lit.int .u32 n).wf = true) a1 → ∀ (a2_0 : Int), (Lit.int .u8 a2_0).wf = true → ∀ (a2_1 : Int), (Lit.int .u8 a2_1).wf = true → ∀ (a2_2 : Int), (Lit.int .u8 a2_2).wf = true → ∀ (a2_3 : Int), (Lit.int .u8 a2_3).wf = true → ∃ k, leatlaw03_CrcTails.f k a0 a1 a2_0 a2_1 a2_2 a2_3 = some true
end Go.Proofs.YtlpgpggaagfdnaaDoor.CrcTails
