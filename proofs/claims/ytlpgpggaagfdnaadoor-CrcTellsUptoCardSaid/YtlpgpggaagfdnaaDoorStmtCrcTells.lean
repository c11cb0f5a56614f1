-- Written by a program of this workplace's own (wip/rows/mkrow.py). Not trusted: Lean checks it.
import Derived.Test.YtlpgpggaagfdnaaDoorQx4
namespace Go.Proofs.YtlpgpggaagfdnaaDoor.CrcTells
open Go.RowKit Go.Proofs.YtlpgpggaagfdnaaDoorW.PrintWords Go.Proofs.YtlpgpggaagfdnaaDoor.Q
def small : Prop := ∀ (l0 : List Int), (fun xs : List Int => ∀ x ∈ xs, (fun n => (Lit.int .u8 n).wf = true) x) l0 → ∀ (a1 : Int), (fun n => (Lit.int .i64 n).wf = true) a1 → ∀ (a2 : Int), (fun n => (Lit.int .i64 n).wf = true) a2 → ∀ (a3 : Int), (fun n => (Lit.int .u32 n).wf = true) a3 → (fun xs : List Int => (xs.map (fun _ => 1)).sum + 1) l0 + (fun _ => 1) a1 + (fun _ => 1) a2 + (fun _ => 1) a3 ≤ 1048576 → ∃ k, leatlaw03_CrcTells.f k l0 a1 a2 a3 = some true
end Go.Proofs.YtlpgpggaagfdnaaDoor.CrcTells
