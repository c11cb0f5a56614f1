-- Written by a program of this workplace's own (wip/rows/mkrow.py). Not trusted: Lean checks it.
import Derived.Test.YthkbnmlelolljaaQx6
namespace Go.Proofs.Ythkbnmlelolljaa.VintBack
open Go.RowKit Go.Proofs.YthkbnmlelolljaaW.PrintWords Go.Proofs.Ythkbnmlelolljaa.Q
def small : Prop := ∀ (l0 : List Int), (fun xs : List Int => ∀ x ∈ xs, (fun n => (Lit.int .u8 n).wf = true) x) l0 → ∀ (a1 : Int), (fun n => (Lit.int .i64 n).wf = true) a1 → ∀ (l2 : List Int), (fun xs : List Int => ∀ x ∈ xs, (fun n => (Lit.int .u8 n).wf = true) x) l2 → (fun xs : List Int => (xs.map (fun _ => 1)).sum + 1) l0 + (fun _ => 1) a1 + (fun xs : List Int => (xs.map (fun _ => 1)).sum + 1) l2 ≤ 1048576 → ∃ k, leatlaw02_VintBack.f k l0 a1 l2 = some true
end Go.Proofs.Ythkbnmlelolljaa.VintBack
