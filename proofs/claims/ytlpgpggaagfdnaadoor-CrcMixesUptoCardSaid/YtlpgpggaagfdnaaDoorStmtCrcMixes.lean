-- Written by a program of this workplace's own (wip/rows/mkrow.py). Not trusted: Lean checks it.
import Derived.Test.YtlpgpggaagfdnaaDoorQx4
namespace Go.Proofs.YtlpgpggaagfdnaaDoor.CrcMixes
open Go.RowKit Go.Proofs.YtlpgpggaagfdnaaDoorW.PrintWords Go.Proofs.YtlpgpggaagfdnaaDoor.Q
def small : Prop := ∀ (l0 : List Go.Proofs.YtlpgpggaagfdnaaDoor.Q.S37), (fun xs : List Go.Proofs.YtlpgpggaagfdnaaDoor.Q.S37 => ∀ x ∈ xs, (fun x : Go.Proofs.YtlpgpggaagfdnaaDoor.Q.S37 => (Lit.int .u8 x.f0).wf = true ∧ (Lit.int .u8 x.f1).wf = true ∧ (Lit.int .u8 x.f2).wf = true) x) l0 → (fun xs : List Go.Proofs.YtlpgpggaagfdnaaDoor.Q.S37 => (xs.map (fun _ : Go.Proofs.YtlpgpggaagfdnaaDoor.Q.S37 => 4)).sum + 1) l0 ≤ 1048576 → ∃ k, leatlaw03_CrcMixes.f k l0 = some true
end Go.Proofs.YtlpgpggaagfdnaaDoor.CrcMixes
