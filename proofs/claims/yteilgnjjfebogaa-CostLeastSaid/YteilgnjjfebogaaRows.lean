/-
  No cell of these rows narrows 'for every input' (looked for: loops, veiled, ifaces, maps, wideKeys, modest, calm, conditions, laid).
  DERIVED. THE GIVEN ROWS OF THIS SEAT. 8 by the template 'for every input the law returns true; each argument reads behind the call as it read before'; 0 by the template 'total and deterministic' (their statements: YteilgnjjfebogaaTotals.lean).
  GIVEN WITH THE SEED: the statements are not yours to turn. If you find one false, say at which input.
  Laid BY PROGRAM, IN A SANDBOX (cutbox-rows.mjs): the forced cells as the released guide's own fill.sh prints them over the translation cfcc27dcae4b94ad… (all of the seat's roots in one cut). By AI agents, Wed Nov 11 2026. No macro, syntax, notation, axiom, sorry.
-/
import Derived.Test.YteilgnjjfebogaaChecked
import GoSem.Claim
import GoSem.ClaimJoined
import GoSem.ClaimMapViews
import Derived.JoinedTies
import Derived.KernelRfl
namespace Go.Proofs.Yteilgnjjfebogaa
/- THE CELL 'sum', in the pinned program and in every row, IS THE sha256 OF THE DUMP (.gsa) THAT YteilgnjjfebogaaProg.lean LOADS. Nothing in Lean hashes anything: it is a label: what it is worth is what the hold of that sum in a sandbox is worth. -/
noncomputable def Try.pinned : Pinned := { name := "yteilgnjjfebogaa", sum := "cfcc27dcae4b94ada0aa0d8305fe7e0827482ede479591351e36a4de9c46dd15", checked := Try.checked }
namespace Rows
def none {H : Type} : Left H := { results := [], args := [] }

/-- 'droverlaw15.CostOrders': WHATEVER THE INPUT: true; the input reads as it did. -/
def costOrdersSpec : ChangeSpec := { name := "costOrders", fn := fun _ => fun
  | [d1, d2] => { results := [.lit (.bool true)], args := [d1, d2] }
  | _ => none }
def costOrdersRow : OpenClaim := { program := "yteilgnjjfebogaa", sum := "cfcc27dcae4b94ada0aa0d8305fe7e0827482ede479591351e36a4de9c46dd15", func := "drover/droverlaw15.CostOrders", spec := "costOrders", inPlace := ["math.Float64frombits", "math.Float64bits"], unfollowed := true, recurses := true, apart := false }
def CostOrdersSaid : Prop := costOrdersRow.holds Try.pinned (OpenSpec.ofChange costOrdersSpec)

/-- ITS FALSE NEIGHBOUR: 'it returns false'. Refute it at one input. -/
def costOrdersWrong : ChangeSpec := { name := "costOrders", fn := fun _ => fun
  | [d1, d2] => { results := [.lit (.bool false)], args := [d1, d2] }
  | _ => none }
def CostOrdersWrongFalsely : Prop := costOrdersRow.holds Try.pinned (OpenSpec.ofChange costOrdersWrong)

/-- 'droverlaw15.CostAdds': WHATEVER THE INPUT: true; the input reads as it did. -/
def costAddsSpec : ChangeSpec := { name := "costAdds", fn := fun _ => fun
  | [d1, d2] => { results := [.lit (.bool true)], args := [d1, d2] }
  | _ => none }
def costAddsRow : OpenClaim := { program := "yteilgnjjfebogaa", sum := "cfcc27dcae4b94ada0aa0d8305fe7e0827482ede479591351e36a4de9c46dd15", func := "drover/droverlaw15.CostAdds", spec := "costAdds", inPlace := ["math.Float64frombits", "math.Float64bits"], unfollowed := true, recurses := true, apart := false }
def CostAddsSaid : Prop := costAddsRow.holds Try.pinned (OpenSpec.ofChange costAddsSpec)

/-- ITS FALSE NEIGHBOUR: 'it returns false'. Refute it at one input. -/
def costAddsWrong : ChangeSpec := { name := "costAdds", fn := fun _ => fun
  | [d1, d2] => { results := [.lit (.bool false)], args := [d1, d2] }
  | _ => none }
def CostAddsWrongFalsely : Prop := costAddsRow.holds Try.pinned (OpenSpec.ofChange costAddsWrong)

/-- 'droverlaw15.CostSums': WHATEVER THE INPUT: true; the input reads as it did. -/
def costSumsSpec : ChangeSpec := { name := "costSums", fn := fun _ => fun
  | [d] => { results := [.lit (.bool true)], args := [d] }
  | _ => none }
def costSumsRow : OpenClaim := { program := "yteilgnjjfebogaa", sum := "cfcc27dcae4b94ada0aa0d8305fe7e0827482ede479591351e36a4de9c46dd15", func := "drover/droverlaw15.CostSums", spec := "costSums", inPlace := ["math.Float64frombits", "math.Float64bits"], unfollowed := true, recurses := true, apart := false }
def CostSumsSaid : Prop := costSumsRow.holds Try.pinned (OpenSpec.ofChange costSumsSpec)

/-- ITS FALSE NEIGHBOUR: 'it returns false'. Refute it at one input. -/
def costSumsWrong : ChangeSpec := { name := "costSums", fn := fun _ => fun
  | [d] => { results := [.lit (.bool false)], args := [d] }
  | _ => none }
def CostSumsWrongFalsely : Prop := costSumsRow.holds Try.pinned (OpenSpec.ofChange costSumsWrong)

/-- 'droverlaw15.CostLeast': WHATEVER THE INPUT: true; the input reads as it did. -/
def costLeastSpec : ChangeSpec := { name := "costLeast", fn := fun _ => fun
  | [d] => { results := [.lit (.bool true)], args := [d] }
  | _ => none }
def costLeastRow : OpenClaim := { program := "yteilgnjjfebogaa", sum := "cfcc27dcae4b94ada0aa0d8305fe7e0827482ede479591351e36a4de9c46dd15", func := "drover/droverlaw15.CostLeast", spec := "costLeast", inPlace := ["math.Float64frombits", "math.Float64bits"], unfollowed := true, recurses := true, apart := false }
def CostLeastSaid : Prop := costLeastRow.holds Try.pinned (OpenSpec.ofChange costLeastSpec)

/-- ITS FALSE NEIGHBOUR: 'it returns false'. Refute it at one input. -/
def costLeastWrong : ChangeSpec := { name := "costLeast", fn := fun _ => fun
  | [d] => { results := [.lit (.bool false)], args := [d] }
  | _ => none }
def CostLeastWrongFalsely : Prop := costLeastRow.holds Try.pinned (OpenSpec.ofChange costLeastWrong)

/-- 'droverlaw15.CostTotal': WHATEVER THE INPUT: true; the input reads as it did. -/
def costTotalSpec : ChangeSpec := { name := "costTotal", fn := fun _ => fun
  | [d1, d2, d3] => { results := [.lit (.bool true)], args := [d1, d2, d3] }
  | _ => none }
def costTotalRow : OpenClaim := { program := "yteilgnjjfebogaa", sum := "cfcc27dcae4b94ada0aa0d8305fe7e0827482ede479591351e36a4de9c46dd15", func := "drover/droverlaw15.CostTotal", spec := "costTotal", inPlace := ["math.Float64frombits", "math.Float64bits"], unfollowed := true, recurses := true, apart := false }
def CostTotalSaid : Prop := costTotalRow.holds Try.pinned (OpenSpec.ofChange costTotalSpec)

/-- ITS FALSE NEIGHBOUR: 'it returns false'. Refute it at one input. -/
def costTotalWrong : ChangeSpec := { name := "costTotal", fn := fun _ => fun
  | [d1, d2, d3] => { results := [.lit (.bool false)], args := [d1, d2, d3] }
  | _ => none }
def CostTotalWrongFalsely : Prop := costTotalRow.holds Try.pinned (OpenSpec.ofChange costTotalWrong)

/-- 'droverlaw15.CostGrows': WHATEVER THE INPUT: true; the input reads as it did. -/
def costGrowsSpec : ChangeSpec := { name := "costGrows", fn := fun _ => fun
  | [d1, d2, d3] => { results := [.lit (.bool true)], args := [d1, d2, d3] }
  | _ => none }
def costGrowsRow : OpenClaim := { program := "yteilgnjjfebogaa", sum := "cfcc27dcae4b94ada0aa0d8305fe7e0827482ede479591351e36a4de9c46dd15", func := "drover/droverlaw15.CostGrows", spec := "costGrows", inPlace := ["math.Float64frombits", "math.Float64bits"], unfollowed := true, recurses := true, apart := false }
def CostGrowsSaid : Prop := costGrowsRow.holds Try.pinned (OpenSpec.ofChange costGrowsSpec)

/-- ITS FALSE NEIGHBOUR: 'it returns false'. Refute it at one input. -/
def costGrowsWrong : ChangeSpec := { name := "costGrows", fn := fun _ => fun
  | [d1, d2, d3] => { results := [.lit (.bool false)], args := [d1, d2, d3] }
  | _ => none }
def CostGrowsWrongFalsely : Prop := costGrowsRow.holds Try.pinned (OpenSpec.ofChange costGrowsWrong)

/-- 'droverlaw15.CostSorts': WHATEVER THE INPUT: true; the input reads as it did. -/
def costSortsSpec : ChangeSpec := { name := "costSorts", fn := fun _ => fun
  | [d] => { results := [.lit (.bool true)], args := [d] }
  | _ => none }
def costSortsRow : OpenClaim := { program := "yteilgnjjfebogaa", sum := "cfcc27dcae4b94ada0aa0d8305fe7e0827482ede479591351e36a4de9c46dd15", func := "drover/droverlaw15.CostSorts", spec := "costSorts", inPlace := ["math.Float64frombits", "math.Float64bits"], unfollowed := true, recurses := true, apart := false }
def CostSortsSaid : Prop := costSortsRow.holds Try.pinned (OpenSpec.ofChange costSortsSpec)

/-- ITS FALSE NEIGHBOUR: 'it returns false'. Refute it at one input. -/
def costSortsWrong : ChangeSpec := { name := "costSorts", fn := fun _ => fun
  | [d] => { results := [.lit (.bool false)], args := [d] }
  | _ => none }
def CostSortsWrongFalsely : Prop := costSortsRow.holds Try.pinned (OpenSpec.ofChange costSortsWrong)

/-- 'droverlaw15.CostFolds': WHATEVER THE INPUT: true; the input reads as it did. -/
def costFoldsSpec : ChangeSpec := { name := "costFolds", fn := fun _ => fun
  | [d1, d2] => { results := [.lit (.bool true)], args := [d1, d2] }
  | _ => none }
def costFoldsRow : OpenClaim := { program := "yteilgnjjfebogaa", sum := "cfcc27dcae4b94ada0aa0d8305fe7e0827482ede479591351e36a4de9c46dd15", func := "drover/droverlaw15.CostFolds", spec := "costFolds", inPlace := ["math.Float64frombits", "math.Float64bits"], unfollowed := true, recurses := true, apart := false }
def CostFoldsSaid : Prop := costFoldsRow.holds Try.pinned (OpenSpec.ofChange costFoldsSpec)

/-- ITS FALSE NEIGHBOUR: 'it returns false'. Refute it at one input. -/
def costFoldsWrong : ChangeSpec := { name := "costFolds", fn := fun _ => fun
  | [d1, d2] => { results := [.lit (.bool false)], args := [d1, d2] }
  | _ => none }
def CostFoldsWrongFalsely : Prop := costFoldsRow.holds Try.pinned (OpenSpec.ofChange costFoldsWrong)

/- THE SECOND FORM. 'bulk': how many values and letters a reading holds, each counted each time it is reached (what is shared counts as often as it is met; a slice's spare places count too). A statement '..UptoSaid' is the law's where the arguments, and the package variables that the reading takes, are together of bulk at most 1048576: NARROWER than '..Said'. Prove '..Said' where nothing that the law and all that it calls make is longer than what came in: it says more and counts as full. Else prove '..UptoSaid'. A law counts once. -/
mutual
def uptoBulk {H : Type} : DataW H → Nat
  | .lit (.string bytes) => bytes.length + 1
  | .lit _ => 1
  | .nil => 1
  | .ptr d => uptoBulk d + 1
  | .slice elems spare => uptoBulkAll elems + uptoBulkAll spare + 1
  | .agg parts => uptoBulkAll parts + 1
  | .iface _ d => uptoBulk d + 1
  | .map entries => uptoBulkEntries entries + 1
  | .held _ => 1
def uptoBulkAll {H : Type} : List (DataW H) → Nat
  | [] => 0
  | d :: r => uptoBulk d + uptoBulkAll r
def uptoBulkEntries {H : Type} : List (Lit × DataW H) → Nat
  | [] => 0
  | x :: r => uptoBulkEntry x + uptoBulkEntries r
def uptoBulkEntry {H : Type} : Lit × DataW H → Nat
  | (.string bytes, d) => bytes.length + uptoBulk d + 1
  | (_, d) => uptoBulk d + 1
 end
def uptoSmall : (H : Type) → List (DataW H) → Bool := fun _ ds => decide (uptoBulkAll ds ≤ 1048576)
def OpenSpec.upto (s : _root_.Go.ChangeSpec) : _root_.Go.OpenSpec := { _root_.Go.OpenSpec.ofChange s with cond := some uptoSmall }

/-- 'droverlaw15.CostOrders', WHERE WHAT IT READS IS OF BULK AT MOST 1048576: true; the input reads as it did. -/
def costOrdersUptoRow : OpenClaim := { program := "yteilgnjjfebogaa", sum := "cfcc27dcae4b94ada0aa0d8305fe7e0827482ede479591351e36a4de9c46dd15", func := "drover/droverlaw15.CostOrders", spec := "costOrders", inPlace := ["math.Float64frombits", "math.Float64bits"], unfollowed := true, recurses := true, apart := false, narrowed := true }
def CostOrdersUptoSaid : Prop := costOrdersUptoRow.holds Try.pinned (OpenSpec.upto costOrdersSpec)

/-- 'droverlaw15.CostAdds', WHERE WHAT IT READS IS OF BULK AT MOST 1048576: true; the input reads as it did. -/
def costAddsUptoRow : OpenClaim := { program := "yteilgnjjfebogaa", sum := "cfcc27dcae4b94ada0aa0d8305fe7e0827482ede479591351e36a4de9c46dd15", func := "drover/droverlaw15.CostAdds", spec := "costAdds", inPlace := ["math.Float64frombits", "math.Float64bits"], unfollowed := true, recurses := true, apart := false, narrowed := true }
def CostAddsUptoSaid : Prop := costAddsUptoRow.holds Try.pinned (OpenSpec.upto costAddsSpec)

/-- 'droverlaw15.CostSums', WHERE WHAT IT READS IS OF BULK AT MOST 1048576: true; the input reads as it did. -/
def costSumsUptoRow : OpenClaim := { program := "yteilgnjjfebogaa", sum := "cfcc27dcae4b94ada0aa0d8305fe7e0827482ede479591351e36a4de9c46dd15", func := "drover/droverlaw15.CostSums", spec := "costSums", inPlace := ["math.Float64frombits", "math.Float64bits"], unfollowed := true, recurses := true, apart := false, narrowed := true }
def CostSumsUptoSaid : Prop := costSumsUptoRow.holds Try.pinned (OpenSpec.upto costSumsSpec)

/-- 'droverlaw15.CostLeast', WHERE WHAT IT READS IS OF BULK AT MOST 1048576: true; the input reads as it did. -/
def costLeastUptoRow : OpenClaim := { program := "yteilgnjjfebogaa", sum := "cfcc27dcae4b94ada0aa0d8305fe7e0827482ede479591351e36a4de9c46dd15", func := "drover/droverlaw15.CostLeast", spec := "costLeast", inPlace := ["math.Float64frombits", "math.Float64bits"], unfollowed := true, recurses := true, apart := false, narrowed := true }
def CostLeastUptoSaid : Prop := costLeastUptoRow.holds Try.pinned (OpenSpec.upto costLeastSpec)

/-- 'droverlaw15.CostTotal', WHERE WHAT IT READS IS OF BULK AT MOST 1048576: true; the input reads as it did. -/
def costTotalUptoRow : OpenClaim := { program := "yteilgnjjfebogaa", sum := "cfcc27dcae4b94ada0aa0d8305fe7e0827482ede479591351e36a4de9c46dd15", func := "drover/droverlaw15.CostTotal", spec := "costTotal", inPlace := ["math.Float64frombits", "math.Float64bits"], unfollowed := true, recurses := true, apart := false, narrowed := true }
def CostTotalUptoSaid : Prop := costTotalUptoRow.holds Try.pinned (OpenSpec.upto costTotalSpec)

/-- 'droverlaw15.CostGrows', WHERE WHAT IT READS IS OF BULK AT MOST 1048576: true; the input reads as it did. -/
def costGrowsUptoRow : OpenClaim := { program := "yteilgnjjfebogaa", sum := "cfcc27dcae4b94ada0aa0d8305fe7e0827482ede479591351e36a4de9c46dd15", func := "drover/droverlaw15.CostGrows", spec := "costGrows", inPlace := ["math.Float64frombits", "math.Float64bits"], unfollowed := true, recurses := true, apart := false, narrowed := true }
def CostGrowsUptoSaid : Prop := costGrowsUptoRow.holds Try.pinned (OpenSpec.upto costGrowsSpec)

/-- 'droverlaw15.CostSorts', WHERE WHAT IT READS IS OF BULK AT MOST 1048576: true; the input reads as it did. -/
def costSortsUptoRow : OpenClaim := { program := "yteilgnjjfebogaa", sum := "cfcc27dcae4b94ada0aa0d8305fe7e0827482ede479591351e36a4de9c46dd15", func := "drover/droverlaw15.CostSorts", spec := "costSorts", inPlace := ["math.Float64frombits", "math.Float64bits"], unfollowed := true, recurses := true, apart := false, narrowed := true }
def CostSortsUptoSaid : Prop := costSortsUptoRow.holds Try.pinned (OpenSpec.upto costSortsSpec)

/-- 'droverlaw15.CostFolds', WHERE WHAT IT READS IS OF BULK AT MOST 1048576: true; the input reads as it did. -/
def costFoldsUptoRow : OpenClaim := { program := "yteilgnjjfebogaa", sum := "cfcc27dcae4b94ada0aa0d8305fe7e0827482ede479591351e36a4de9c46dd15", func := "drover/droverlaw15.CostFolds", spec := "costFolds", inPlace := ["math.Float64frombits", "math.Float64bits"], unfollowed := true, recurses := true, apart := false, narrowed := true }
def CostFoldsUptoSaid : Prop := costFoldsUptoRow.holds Try.pinned (OpenSpec.upto costFoldsSpec)

end Rows
end Go.Proofs.Yteilgnjjfebogaa
