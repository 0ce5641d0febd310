/- JobsPlans: the walk in the form that the row asks for. -/
import Derived.Test.YtobdjfibaemmhaaHl
namespace Go.Proofs.Ytobdjfibaemmhaa
open Go.RowKit Go.Maps Go.Lib

theorem jobsPlans_w {w : World} {uv vv rv hv : Value} {us vs : List Un} {run hit : List Str} (h0 : UnitsIn w uv us ∧ NilOk uv) (h1 : UnitsIn w vv vs ∧ NilOk vv) (h2 : SRow w rv run ∧ ShortAll run ∧ run.length ≤ 140737488355328) (h3 : SRow w hv hit ∧ ShortAll hit ∧ hit.length ≤ 140737488355328) :
    Calls Try.prog 3 #[uv, vv, rv, hv] w fun e w' => e = .returned (.bool true) ∧ Below w.heap.size w w' := plans_any h0.1 h0.2 h1.1 h1.2 h2.1 h2.2.1 h3.1 h3.2.1
end Go.Proofs.Ytobdjfibaemmhaa
