-- Written by a program of this workplace's own (wip/rows/mkrow.py). Not trusted: Lean checks it.
import Derived.Test.YthkbnmlelolljaaQx8
namespace Go.Proofs.Ythkbnmlelolljaa.VintMany
open Go.RowKit Go.Proofs.YthkbnmlelolljaaW.PrintWords Go.Proofs.Ythkbnmlelolljaa.Q
def small : Prop := ∀ (l0 : List Int), (fun xs : List Int => ∀ x ∈ xs, (fun n => (Lit.int .i64 n).wf = true) x) l0 → ∀ (a1 : Int), (fun n => (Lit.int .i64 n).wf = true) a1 → (fun xs : List Int => (xs.map (fun _ => 1)).sum + 1) l0 + (fun _ => 1) a1 ≤ 1048576 → ∃ k, leatlaw02_VintMany.f k l0 a1 = some true
end Go.Proofs.Ythkbnmlelolljaa.VintMany
