-- Written by a program of this workplace's own (wip/rows/mkrow.py). Not trusted: Lean checks it.
import Derived.Test.YtlpgpggaagfdnaaDoorQx2
namespace Go.Proofs.YtlpgpggaagfdnaaDoor.CrcSums
open Go.RowKit Go.Proofs.YtlpgpggaagfdnaaDoorW.PrintWords Go.Proofs.YtlpgpggaagfdnaaDoor.Q
def small : Prop := ∀ (l0 : List (List Int)), (fun xs : List (List Int) => ∀ x ∈ xs, (fun xs : List Int => ∀ x ∈ xs, (fun n => (Lit.int .u8 n).wf = true) x) x) l0 → ∀ (a1 : Int), (fun n => (Lit.int .u32 n).wf = true) a1 → (fun xs : List (List Int) => (xs.map (fun xs : List Int => (xs.map (fun _ => 1)).sum + 1)).sum + 1) l0 + (fun _ => 1) a1 ≤ 1048576 → ∃ k, leatlaw03_CrcSums.f k l0 a1 = some true
end Go.Proofs.YtlpgpggaagfdnaaDoor.CrcSums
