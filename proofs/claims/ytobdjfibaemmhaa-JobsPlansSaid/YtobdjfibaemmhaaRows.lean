/-
  No cell of these rows narrows 'for every input' (looked for: loops, veiled, ifaces, maps, wideKeys, modest, calm, conditions, laid).
  DERIVED. THE GIVEN ROWS OF THIS SEAT. 5 by the template 'for every input the law returns true; each argument reads behind the call as it read before'; 0 by the template 'total and deterministic' (their statements: YtobdjfibaemmhaaTotals.lean).
  GIVEN WITH THE SEED: the statements are not yours to turn. If you find one false, say at which input.
  Laid BY PROGRAM, IN A SANDBOX (cutbox-rows.mjs): the forced cells as the released guide's own fill.sh prints them over the translation dc7d62b41240a705… (all of the seat's roots in one cut). By AI agents, Wed Nov 11 2026. No macro, syntax, notation, axiom, sorry.
-/
import Derived.Test.YtobdjfibaemmhaaChecked
import GoSem.Claim
import GoSem.ClaimJoined
import GoSem.ClaimMapViews
import Derived.JoinedTies
import Derived.KernelRfl
namespace Go.Proofs.Ytobdjfibaemmhaa
/- THE CELL 'sum', in the pinned program and in every row, IS THE sha256 OF THE DUMP (.gsa) THAT YtobdjfibaemmhaaProg.lean LOADS. Nothing in Lean hashes anything: it is a label: what it is worth is what the hold of that sum in a sandbox is worth. -/
noncomputable def Try.pinned : Pinned := { name := "ytobdjfibaemmhaa", sum := "dc7d62b41240a705bd4617ef6d84bf7f96c7c42fffc396820ec05fb87a68d951", checked := Try.checked }
namespace Rows
def none {H : Type} : Left H := { results := [], args := [] }

/-- 'farrierlaw15.JobsPlans': WHATEVER THE INPUT: true; the input reads as it did. -/
def jobsPlansSpec : ChangeSpec := { name := "jobsPlans", fn := fun _ => fun
  | [d1, d2, d3, d4] => { results := [.lit (.bool true)], args := [d1, d2, d3, d4] }
  | _ => none }
def jobsPlansRow : OpenClaim := { program := "ytobdjfibaemmhaa", sum := "dc7d62b41240a705bd4617ef6d84bf7f96c7c42fffc396820ec05fb87a68d951", func := "farrier/farrierlaw15.JobsPlans", spec := "jobsPlans", unfollowed := true, recurses := true, apart := false }
def JobsPlansSaid : Prop := jobsPlansRow.holds Try.pinned (OpenSpec.ofChange jobsPlansSpec)

/-- ITS FALSE NEIGHBOUR: 'it returns false'. Refute it at one input. -/
def jobsPlansWrong : ChangeSpec := { name := "jobsPlans", fn := fun _ => fun
  | [d1, d2, d3, d4] => { results := [.lit (.bool false)], args := [d1, d2, d3, d4] }
  | _ => none }
def JobsPlansWrongFalsely : Prop := jobsPlansRow.holds Try.pinned (OpenSpec.ofChange jobsPlansWrong)

/-- 'farrierlaw15.JobsNone': WHATEVER THE INPUT: true; the input reads as it did. -/
def jobsNoneSpec : ChangeSpec := { name := "jobsNone", fn := fun _ => fun
  | [d1, d2, d3] => { results := [.lit (.bool true)], args := [d1, d2, d3] }
  | _ => none }
def jobsNoneRow : OpenClaim := { program := "ytobdjfibaemmhaa", sum := "dc7d62b41240a705bd4617ef6d84bf7f96c7c42fffc396820ec05fb87a68d951", func := "farrier/farrierlaw15.JobsNone", spec := "jobsNone", unfollowed := true, recurses := true, apart := false }
def JobsNoneSaid : Prop := jobsNoneRow.holds Try.pinned (OpenSpec.ofChange jobsNoneSpec)

/-- ITS FALSE NEIGHBOUR: 'it returns false'. Refute it at one input. -/
def jobsNoneWrong : ChangeSpec := { name := "jobsNone", fn := fun _ => fun
  | [d1, d2, d3] => { results := [.lit (.bool false)], args := [d1, d2, d3] }
  | _ => none }
def JobsNoneWrongFalsely : Prop := jobsNoneRow.holds Try.pinned (OpenSpec.ofChange jobsNoneWrong)

/-- 'farrierlaw14.GraphLeans': WHATEVER THE INPUT: true; the input reads as it did. -/
def graphLeansSpec : ChangeSpec := { name := "graphLeans", fn := fun _ => fun
  | [d1, d2] => { results := [.lit (.bool true)], args := [d1, d2] }
  | _ => none }
def graphLeansRow : OpenClaim := { program := "ytobdjfibaemmhaa", sum := "dc7d62b41240a705bd4617ef6d84bf7f96c7c42fffc396820ec05fb87a68d951", func := "farrier/farrierlaw14.GraphLeans", spec := "graphLeans", unfollowed := true, recurses := true, apart := false }
def GraphLeansSaid : Prop := graphLeansRow.holds Try.pinned (OpenSpec.ofChange graphLeansSpec)

/-- ITS FALSE NEIGHBOUR: 'it returns false'. Refute it at one input. -/
def graphLeansWrong : ChangeSpec := { name := "graphLeans", fn := fun _ => fun
  | [d1, d2] => { results := [.lit (.bool false)], args := [d1, d2] }
  | _ => none }
def GraphLeansWrongFalsely : Prop := graphLeansRow.holds Try.pinned (OpenSpec.ofChange graphLeansWrong)

/-- 'farrierlaw14.GraphAdds': WHATEVER THE INPUT: true; the input reads as it did. -/
def graphAddsSpec : ChangeSpec := { name := "graphAdds", fn := fun _ => fun
  | [d1, d2] => { results := [.lit (.bool true)], args := [d1, d2] }
  | _ => none }
def graphAddsRow : OpenClaim := { program := "ytobdjfibaemmhaa", sum := "dc7d62b41240a705bd4617ef6d84bf7f96c7c42fffc396820ec05fb87a68d951", func := "farrier/farrierlaw14.GraphAdds", spec := "graphAdds", unfollowed := true, recurses := true, apart := false }
def GraphAddsSaid : Prop := graphAddsRow.holds Try.pinned (OpenSpec.ofChange graphAddsSpec)

/-- ITS FALSE NEIGHBOUR: 'it returns false'. Refute it at one input. -/
def graphAddsWrong : ChangeSpec := { name := "graphAdds", fn := fun _ => fun
  | [d1, d2] => { results := [.lit (.bool false)], args := [d1, d2] }
  | _ => none }
def GraphAddsWrongFalsely : Prop := graphAddsRow.holds Try.pinned (OpenSpec.ofChange graphAddsWrong)

/-- 'farrierlaw15.JobsOrders': WHATEVER THE INPUT: true; the input reads as it did. -/
def jobsOrdersSpec : ChangeSpec := { name := "jobsOrders", fn := fun _ => fun
  | [d1, d2, d3, d4] => { results := [.lit (.bool true)], args := [d1, d2, d3, d4] }
  | _ => none }
def jobsOrdersRow : OpenClaim := { program := "ytobdjfibaemmhaa", sum := "dc7d62b41240a705bd4617ef6d84bf7f96c7c42fffc396820ec05fb87a68d951", func := "farrier/farrierlaw15.JobsOrders", spec := "jobsOrders", unfollowed := true, recurses := true, apart := false }
def JobsOrdersSaid : Prop := jobsOrdersRow.holds Try.pinned (OpenSpec.ofChange jobsOrdersSpec)

/-- ITS FALSE NEIGHBOUR: 'it returns false'. Refute it at one input. -/
def jobsOrdersWrong : ChangeSpec := { name := "jobsOrders", fn := fun _ => fun
  | [d1, d2, d3, d4] => { results := [.lit (.bool false)], args := [d1, d2, d3, d4] }
  | _ => none }
def JobsOrdersWrongFalsely : Prop := jobsOrdersRow.holds Try.pinned (OpenSpec.ofChange jobsOrdersWrong)

/- THE SECOND FORM. 'bulk': how many values and letters a reading holds, each counted each time it is reached (what is shared counts as often as it is met; a slice's spare places count too). A statement '..UptoSaid' is the law's where the arguments, and the package variables that the reading takes, are together of bulk at most 1048576: NARROWER than '..Said'. Prove '..Said' where nothing that the law and all that it calls make is longer than what came in: it says more and counts as full. Else prove '..UptoSaid'. A law counts once. -/
mutual
def uptoBulk {H : Type} : DataW H → Nat
  | .lit (.string bytes) => bytes.length + 1
  | .lit _ => 1
  | .nil => 1
  | .ptr d => uptoBulk d + 1
  | .slice elems spare => uptoBulkAll elems + uptoBulkAll spare + 1
  | .agg parts => uptoBulkAll parts + 1
  | .iface _ d => uptoBulk d + 1
  | .map entries => uptoBulkEntries entries + 1
  | .held _ => 1
def uptoBulkAll {H : Type} : List (DataW H) → Nat
  | [] => 0
  | d :: r => uptoBulk d + uptoBulkAll r
def uptoBulkEntries {H : Type} : List (Lit × DataW H) → Nat
  | [] => 0
  | x :: r => uptoBulkEntry x + uptoBulkEntries r
def uptoBulkEntry {H : Type} : Lit × DataW H → Nat
  | (.string bytes, d) => bytes.length + uptoBulk d + 1
  | (_, d) => uptoBulk d + 1
 end
def uptoSmall : (H : Type) → List (DataW H) → Bool := fun _ ds => decide (uptoBulkAll ds ≤ 1048576)
def OpenSpec.upto (s : _root_.Go.ChangeSpec) : _root_.Go.OpenSpec := { _root_.Go.OpenSpec.ofChange s with cond := some uptoSmall }

/-- 'farrierlaw15.JobsPlans', WHERE WHAT IT READS IS OF BULK AT MOST 1048576: true; the input reads as it did. -/
def jobsPlansUptoRow : OpenClaim := { program := "ytobdjfibaemmhaa", sum := "dc7d62b41240a705bd4617ef6d84bf7f96c7c42fffc396820ec05fb87a68d951", func := "farrier/farrierlaw15.JobsPlans", spec := "jobsPlans", unfollowed := true, recurses := true, apart := false, narrowed := true }
def JobsPlansUptoSaid : Prop := jobsPlansUptoRow.holds Try.pinned (OpenSpec.upto jobsPlansSpec)

/-- 'farrierlaw15.JobsNone', WHERE WHAT IT READS IS OF BULK AT MOST 1048576: true; the input reads as it did. -/
def jobsNoneUptoRow : OpenClaim := { program := "ytobdjfibaemmhaa", sum := "dc7d62b41240a705bd4617ef6d84bf7f96c7c42fffc396820ec05fb87a68d951", func := "farrier/farrierlaw15.JobsNone", spec := "jobsNone", unfollowed := true, recurses := true, apart := false, narrowed := true }
def JobsNoneUptoSaid : Prop := jobsNoneUptoRow.holds Try.pinned (OpenSpec.upto jobsNoneSpec)

/-- 'farrierlaw14.GraphLeans', WHERE WHAT IT READS IS OF BULK AT MOST 1048576: true; the input reads as it did. -/
def graphLeansUptoRow : OpenClaim := { program := "ytobdjfibaemmhaa", sum := "dc7d62b41240a705bd4617ef6d84bf7f96c7c42fffc396820ec05fb87a68d951", func := "farrier/farrierlaw14.GraphLeans", spec := "graphLeans", unfollowed := true, recurses := true, apart := false, narrowed := true }
def GraphLeansUptoSaid : Prop := graphLeansUptoRow.holds Try.pinned (OpenSpec.upto graphLeansSpec)

/-- 'farrierlaw14.GraphAdds', WHERE WHAT IT READS IS OF BULK AT MOST 1048576: true; the input reads as it did. -/
def graphAddsUptoRow : OpenClaim := { program := "ytobdjfibaemmhaa", sum := "dc7d62b41240a705bd4617ef6d84bf7f96c7c42fffc396820ec05fb87a68d951", func := "farrier/farrierlaw14.GraphAdds", spec := "graphAdds", unfollowed := true, recurses := true, apart := false, narrowed := true }
def GraphAddsUptoSaid : Prop := graphAddsUptoRow.holds Try.pinned (OpenSpec.upto graphAddsSpec)

/-- 'farrierlaw15.JobsOrders', WHERE WHAT IT READS IS OF BULK AT MOST 1048576: true; the input reads as it did. -/
def jobsOrdersUptoRow : OpenClaim := { program := "ytobdjfibaemmhaa", sum := "dc7d62b41240a705bd4617ef6d84bf7f96c7c42fffc396820ec05fb87a68d951", func := "farrier/farrierlaw15.JobsOrders", spec := "jobsOrders", unfollowed := true, recurses := true, apart := false, narrowed := true }
def JobsOrdersUptoSaid : Prop := jobsOrdersUptoRow.holds Try.pinned (OpenSpec.upto jobsOrdersSpec)

end Rows
end Go.Proofs.Ytobdjfibaemmhaa
