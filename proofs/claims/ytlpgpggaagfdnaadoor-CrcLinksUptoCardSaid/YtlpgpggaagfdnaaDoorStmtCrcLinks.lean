-- Written by a program of this workplace's own (wip/rows/mkrow.py). Not trusted: Lean checks it.
import Derived.Test.YtlpgpggaagfdnaaDoorQx6
namespace Go.Proofs.YtlpgpggaagfdnaaDoor.CrcLinks
open Go.RowKit Go.Proofs.YtlpgpggaagfdnaaDoorW.PrintWords Go.Proofs.YtlpgpggaagfdnaaDoor.Q
def small : Prop := ∀ (l0 : List Int), (fun xs : List Int => ∀ x ∈ xs, (fun n => (Lit.int .u8 n).wf = true) x) l0 → ∀ (l1 : List Int), (fun xs : List Int => ∀ x ∈ xs, (fun n => (Lit.int .u8 n).wf = true) x) l1 → ∀ (l2 : List Int), (fun xs : List Int => ∀ x ∈ xs, (fun n => (Lit.int .u8 n).wf = true) x) l2 → (fun xs : List Int => (xs.map (fun _ => 1)).sum + 1) l0 + (fun xs : List Int => (xs.map (fun _ => 1)).sum + 1) l1 + (fun xs : List Int => (xs.map (fun _ => 1)).sum + 1) l2 ≤ 1048576 → ∃ k, leatlaw03_CrcLinks.f k l0 l1 l2 = some true
end Go.Proofs.YtlpgpggaagfdnaaDoor.CrcLinks
