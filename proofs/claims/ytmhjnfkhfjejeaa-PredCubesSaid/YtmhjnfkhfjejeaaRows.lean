/-
  No cell of these rows narrows 'for every input' (looked for: loops, veiled, ifaces, maps, wideKeys, modest, calm, conditions, laid).
  DERIVED. THE GIVEN ROWS OF THIS SEAT. 10 by the template 'for every input the law returns true; each argument reads behind the call as it read before'; 0 by the template 'total and deterministic' (their statements: YtmhjnfkhfjejeaaTotals.lean).
  GIVEN WITH THE SEED: the statements are not yours to turn. If you find one false, say at which input.
  Laid BY PROGRAM, IN A SANDBOX (cutbox-rows.mjs): the forced cells as the released guide's own fill.sh prints them over the translation 4c4efd5f9494cb43… (all of the seat's roots in one cut). By AI agents, Wed Nov 11 2026. No macro, syntax, notation, axiom, sorry.
-/
import Derived.Test.YtmhjnfkhfjejeaaChecked
import GoSem.Claim
import GoSem.ClaimJoined
import GoSem.ClaimMapViews
import Derived.JoinedTies
import Derived.KernelRfl
namespace Go.Proofs.Ytmhjnfkhfjejeaa
/- THE CELL 'sum', in the pinned program and in every row, IS THE sha256 OF THE DUMP (.gsa) THAT YtmhjnfkhfjejeaaProg.lean LOADS. Nothing in Lean hashes anything: it is a label: what it is worth is what the hold of that sum in a sandbox is worth. -/
noncomputable def Try.pinned : Pinned := { name := "ytmhjnfkhfjejeaa", sum := "4c4efd5f9494cb43f3bd5733000fa04a383e5e196e838aac219a1590f01bdc7a", checked := Try.checked }
namespace Rows
def none {H : Type} : Left H := { results := [], args := [] }

/-- 'droverlaw16.PredPicks': WHATEVER THE INPUT: true; the input reads as it did. -/
def predPicksSpec : ChangeSpec := { name := "predPicks", fn := fun _ => fun
  | [d] => { results := [.lit (.bool true)], args := [d] }
  | _ => none }
def predPicksRow : OpenClaim := { program := "ytmhjnfkhfjejeaa", sum := "4c4efd5f9494cb43f3bd5733000fa04a383e5e196e838aac219a1590f01bdc7a", func := "drover/droverlaw16.PredPicks", spec := "predPicks", unfollowed := true, recurses := true, apart := false }
def PredPicksSaid : Prop := predPicksRow.holds Try.pinned (OpenSpec.ofChange predPicksSpec)

/-- ITS FALSE NEIGHBOUR: 'it returns false'. Refute it at one input. -/
def predPicksWrong : ChangeSpec := { name := "predPicks", fn := fun _ => fun
  | [d] => { results := [.lit (.bool false)], args := [d] }
  | _ => none }
def PredPicksWrongFalsely : Prop := predPicksRow.holds Try.pinned (OpenSpec.ofChange predPicksWrong)

/-- 'droverlaw16.PredJoins': WHATEVER THE INPUT: true; the input reads as it did. -/
def predJoinsSpec : ChangeSpec := { name := "predJoins", fn := fun _ => fun
  | [d1, d2, d3, d4, d5] => { results := [.lit (.bool true)], args := [d1, d2, d3, d4, d5] }
  | _ => none }
def predJoinsRow : OpenClaim := { program := "ytmhjnfkhfjejeaa", sum := "4c4efd5f9494cb43f3bd5733000fa04a383e5e196e838aac219a1590f01bdc7a", func := "drover/droverlaw16.PredJoins", spec := "predJoins", unfollowed := true, recurses := true, apart := false }
def PredJoinsSaid : Prop := predJoinsRow.holds Try.pinned (OpenSpec.ofChange predJoinsSpec)

/-- ITS FALSE NEIGHBOUR: 'it returns false'. Refute it at one input. -/
def predJoinsWrong : ChangeSpec := { name := "predJoins", fn := fun _ => fun
  | [d1, d2, d3, d4, d5] => { results := [.lit (.bool false)], args := [d1, d2, d3, d4, d5] }
  | _ => none }
def PredJoinsWrongFalsely : Prop := predJoinsRow.holds Try.pinned (OpenSpec.ofChange predJoinsWrong)

/-- 'droverlaw16.PredEvals': WHATEVER THE INPUT: true; the input reads as it did. -/
def predEvalsSpec : ChangeSpec := { name := "predEvals", fn := fun _ => fun
  | [d1, d2] => { results := [.lit (.bool true)], args := [d1, d2] }
  | _ => none }
def predEvalsRow : OpenClaim := { program := "ytmhjnfkhfjejeaa", sum := "4c4efd5f9494cb43f3bd5733000fa04a383e5e196e838aac219a1590f01bdc7a", func := "drover/droverlaw16.PredEvals", spec := "predEvals", unfollowed := true, recurses := true, apart := false }
def PredEvalsSaid : Prop := predEvalsRow.holds Try.pinned (OpenSpec.ofChange predEvalsSpec)

/-- ITS FALSE NEIGHBOUR: 'it returns false'. Refute it at one input. -/
def predEvalsWrong : ChangeSpec := { name := "predEvals", fn := fun _ => fun
  | [d1, d2] => { results := [.lit (.bool false)], args := [d1, d2] }
  | _ => none }
def PredEvalsWrongFalsely : Prop := predEvalsRow.holds Try.pinned (OpenSpec.ofChange predEvalsWrong)

/-- 'droverlaw16.PredMakes': WHATEVER THE INPUT: true; the input reads as it did. -/
def predMakesSpec : ChangeSpec := { name := "predMakes", fn := fun _ => fun
  | [d1, d2] => { results := [.lit (.bool true)], args := [d1, d2] }
  | _ => none }
def predMakesRow : OpenClaim := { program := "ytmhjnfkhfjejeaa", sum := "4c4efd5f9494cb43f3bd5733000fa04a383e5e196e838aac219a1590f01bdc7a", func := "drover/droverlaw16.PredMakes", spec := "predMakes", unfollowed := true, recurses := true, apart := false }
def PredMakesSaid : Prop := predMakesRow.holds Try.pinned (OpenSpec.ofChange predMakesSpec)

/-- ITS FALSE NEIGHBOUR: 'it returns false'. Refute it at one input. -/
def predMakesWrong : ChangeSpec := { name := "predMakes", fn := fun _ => fun
  | [d1, d2] => { results := [.lit (.bool false)], args := [d1, d2] }
  | _ => none }
def PredMakesWrongFalsely : Prop := predMakesRow.holds Try.pinned (OpenSpec.ofChange predMakesWrong)

/-- 'droverlaw16.PredCubes': WHATEVER THE INPUT: true; the input reads as it did. -/
def predCubesSpec : ChangeSpec := { name := "predCubes", fn := fun _ => fun
  | [d] => { results := [.lit (.bool true)], args := [d] }
  | _ => none }
def predCubesRow : OpenClaim := { program := "ytmhjnfkhfjejeaa", sum := "4c4efd5f9494cb43f3bd5733000fa04a383e5e196e838aac219a1590f01bdc7a", func := "drover/droverlaw16.PredCubes", spec := "predCubes", unfollowed := true, recurses := true, apart := false }
def PredCubesSaid : Prop := predCubesRow.holds Try.pinned (OpenSpec.ofChange predCubesSpec)

/-- ITS FALSE NEIGHBOUR: 'it returns false'. Refute it at one input. -/
def predCubesWrong : ChangeSpec := { name := "predCubes", fn := fun _ => fun
  | [d] => { results := [.lit (.bool false)], args := [d] }
  | _ => none }
def PredCubesWrongFalsely : Prop := predCubesRow.holds Try.pinned (OpenSpec.ofChange predCubesWrong)

/-- 'droverlaw16.PredApart': WHATEVER THE INPUT: true; the input reads as it did. -/
def predApartSpec : ChangeSpec := { name := "predApart", fn := fun _ => fun
  | [d1, d2] => { results := [.lit (.bool true)], args := [d1, d2] }
  | _ => none }
def predApartRow : OpenClaim := { program := "ytmhjnfkhfjejeaa", sum := "4c4efd5f9494cb43f3bd5733000fa04a383e5e196e838aac219a1590f01bdc7a", func := "drover/droverlaw16.PredApart", spec := "predApart", unfollowed := true, recurses := true, apart := false }
def PredApartSaid : Prop := predApartRow.holds Try.pinned (OpenSpec.ofChange predApartSpec)

/-- ITS FALSE NEIGHBOUR: 'it returns false'. Refute it at one input. -/
def predApartWrong : ChangeSpec := { name := "predApart", fn := fun _ => fun
  | [d1, d2] => { results := [.lit (.bool false)], args := [d1, d2] }
  | _ => none }
def PredApartWrongFalsely : Prop := predApartRow.holds Try.pinned (OpenSpec.ofChange predApartWrong)

/-- 'droverlaw16.PredCuts': WHATEVER THE INPUT: true; the input reads as it did. -/
def predCutsSpec : ChangeSpec := { name := "predCuts", fn := fun _ => fun
  | [d1, d2] => { results := [.lit (.bool true)], args := [d1, d2] }
  | _ => none }
def predCutsRow : OpenClaim := { program := "ytmhjnfkhfjejeaa", sum := "4c4efd5f9494cb43f3bd5733000fa04a383e5e196e838aac219a1590f01bdc7a", func := "drover/droverlaw16.PredCuts", spec := "predCuts", unfollowed := true, recurses := true, apart := false }
def PredCutsSaid : Prop := predCutsRow.holds Try.pinned (OpenSpec.ofChange predCutsSpec)

/-- ITS FALSE NEIGHBOUR: 'it returns false'. Refute it at one input. -/
def predCutsWrong : ChangeSpec := { name := "predCuts", fn := fun _ => fun
  | [d1, d2] => { results := [.lit (.bool false)], args := [d1, d2] }
  | _ => none }
def PredCutsWrongFalsely : Prop := predCutsRow.holds Try.pinned (OpenSpec.ofChange predCutsWrong)

/-- 'droverlaw16.PredParts': WHATEVER THE INPUT: true; the input reads as it did. -/
def predPartsSpec : ChangeSpec := { name := "predParts", fn := fun _ => fun
  | [d1, d2] => { results := [.lit (.bool true)], args := [d1, d2] }
  | _ => none }
def predPartsRow : OpenClaim := { program := "ytmhjnfkhfjejeaa", sum := "4c4efd5f9494cb43f3bd5733000fa04a383e5e196e838aac219a1590f01bdc7a", func := "drover/droverlaw16.PredParts", spec := "predParts", unfollowed := true, recurses := true, apart := false }
def PredPartsSaid : Prop := predPartsRow.holds Try.pinned (OpenSpec.ofChange predPartsSpec)

/-- ITS FALSE NEIGHBOUR: 'it returns false'. Refute it at one input. -/
def predPartsWrong : ChangeSpec := { name := "predParts", fn := fun _ => fun
  | [d1, d2] => { results := [.lit (.bool false)], args := [d1, d2] }
  | _ => none }
def PredPartsWrongFalsely : Prop := predPartsRow.holds Try.pinned (OpenSpec.ofChange predPartsWrong)

/-- 'droverlaw16.PredClash': WHATEVER THE INPUT: true; the input reads as it did. -/
def predClashSpec : ChangeSpec := { name := "predClash", fn := fun _ => fun
  | [d1, d2, d3] => { results := [.lit (.bool true)], args := [d1, d2, d3] }
  | _ => none }
def predClashRow : OpenClaim := { program := "ytmhjnfkhfjejeaa", sum := "4c4efd5f9494cb43f3bd5733000fa04a383e5e196e838aac219a1590f01bdc7a", func := "drover/droverlaw16.PredClash", spec := "predClash", unfollowed := true, recurses := true, apart := false }
def PredClashSaid : Prop := predClashRow.holds Try.pinned (OpenSpec.ofChange predClashSpec)

/-- ITS FALSE NEIGHBOUR: 'it returns false'. Refute it at one input. -/
def predClashWrong : ChangeSpec := { name := "predClash", fn := fun _ => fun
  | [d1, d2, d3] => { results := [.lit (.bool false)], args := [d1, d2, d3] }
  | _ => none }
def PredClashWrongFalsely : Prop := predClashRow.holds Try.pinned (OpenSpec.ofChange predClashWrong)

/-- 'droverlaw16.PredMeets': WHATEVER THE INPUT: true; the input reads as it did. -/
def predMeetsSpec : ChangeSpec := { name := "predMeets", fn := fun _ => fun
  | [d1, d2, d3] => { results := [.lit (.bool true)], args := [d1, d2, d3] }
  | _ => none }
def predMeetsRow : OpenClaim := { program := "ytmhjnfkhfjejeaa", sum := "4c4efd5f9494cb43f3bd5733000fa04a383e5e196e838aac219a1590f01bdc7a", func := "drover/droverlaw16.PredMeets", spec := "predMeets", unfollowed := true, recurses := true, apart := false }
def PredMeetsSaid : Prop := predMeetsRow.holds Try.pinned (OpenSpec.ofChange predMeetsSpec)

/-- ITS FALSE NEIGHBOUR: 'it returns false'. Refute it at one input. -/
def predMeetsWrong : ChangeSpec := { name := "predMeets", fn := fun _ => fun
  | [d1, d2, d3] => { results := [.lit (.bool false)], args := [d1, d2, d3] }
  | _ => none }
def PredMeetsWrongFalsely : Prop := predMeetsRow.holds Try.pinned (OpenSpec.ofChange predMeetsWrong)

/- THE SECOND FORM. 'bulk': how many values and letters a reading holds, each counted each time it is reached (what is shared counts as often as it is met; a slice's spare places count too). A statement '..UptoSaid' is the law's where the arguments, and the package variables that the reading takes, are together of bulk at most 1048576: NARROWER than '..Said'. Prove '..Said' where nothing that the law and all that it calls make is longer than what came in: it says more and counts as full. Else prove '..UptoSaid'. A law counts once. -/
mutual
def uptoBulk {H : Type} : DataW H → Nat
  | .lit (.string bytes) => bytes.length + 1
  | .lit _ => 1
  | .nil => 1
  | .ptr d => uptoBulk d + 1
  | .slice elems spare => uptoBulkAll elems + uptoBulkAll spare + 1
  | .agg parts => uptoBulkAll parts + 1
  | .iface _ d => uptoBulk d + 1
  | .map entries => uptoBulkEntries entries + 1
  | .held _ => 1
def uptoBulkAll {H : Type} : List (DataW H) → Nat
  | [] => 0
  | d :: r => uptoBulk d + uptoBulkAll r
def uptoBulkEntries {H : Type} : List (Lit × DataW H) → Nat
  | [] => 0
  | x :: r => uptoBulkEntry x + uptoBulkEntries r
def uptoBulkEntry {H : Type} : Lit × DataW H → Nat
  | (.string bytes, d) => bytes.length + uptoBulk d + 1
  | (_, d) => uptoBulk d + 1
 end
def uptoSmall : (H : Type) → List (DataW H) → Bool := fun _ ds => decide (uptoBulkAll ds ≤ 1048576)
def OpenSpec.upto (s : _root_.Go.ChangeSpec) : _root_.Go.OpenSpec := { _root_.Go.OpenSpec.ofChange s with cond := some uptoSmall }

/-- 'droverlaw16.PredPicks', WHERE WHAT IT READS IS OF BULK AT MOST 1048576: true; the input reads as it did. -/
def predPicksUptoRow : OpenClaim := { program := "ytmhjnfkhfjejeaa", sum := "4c4efd5f9494cb43f3bd5733000fa04a383e5e196e838aac219a1590f01bdc7a", func := "drover/droverlaw16.PredPicks", spec := "predPicks", unfollowed := true, recurses := true, apart := false, narrowed := true }
def PredPicksUptoSaid : Prop := predPicksUptoRow.holds Try.pinned (OpenSpec.upto predPicksSpec)

/-- 'droverlaw16.PredJoins', WHERE WHAT IT READS IS OF BULK AT MOST 1048576: true; the input reads as it did. -/
def predJoinsUptoRow : OpenClaim := { program := "ytmhjnfkhfjejeaa", sum := "4c4efd5f9494cb43f3bd5733000fa04a383e5e196e838aac219a1590f01bdc7a", func := "drover/droverlaw16.PredJoins", spec := "predJoins", unfollowed := true, recurses := true, apart := false, narrowed := true }
def PredJoinsUptoSaid : Prop := predJoinsUptoRow.holds Try.pinned (OpenSpec.upto predJoinsSpec)

/-- 'droverlaw16.PredEvals', WHERE WHAT IT READS IS OF BULK AT MOST 1048576: true; the input reads as it did. -/
def predEvalsUptoRow : OpenClaim := { program := "ytmhjnfkhfjejeaa", sum := "4c4efd5f9494cb43f3bd5733000fa04a383e5e196e838aac219a1590f01bdc7a", func := "drover/droverlaw16.PredEvals", spec := "predEvals", unfollowed := true, recurses := true, apart := false, narrowed := true }
def PredEvalsUptoSaid : Prop := predEvalsUptoRow.holds Try.pinned (OpenSpec.upto predEvalsSpec)

/-- 'droverlaw16.PredMakes', WHERE WHAT IT READS IS OF BULK AT MOST 1048576: true; the input reads as it did. -/
def predMakesUptoRow : OpenClaim := { program := "ytmhjnfkhfjejeaa", sum := "4c4efd5f9494cb43f3bd5733000fa04a383e5e196e838aac219a1590f01bdc7a", func := "drover/droverlaw16.PredMakes", spec := "predMakes", unfollowed := true, recurses := true, apart := false, narrowed := true }
def PredMakesUptoSaid : Prop := predMakesUptoRow.holds Try.pinned (OpenSpec.upto predMakesSpec)

/-- 'droverlaw16.PredCubes', WHERE WHAT IT READS IS OF BULK AT MOST 1048576: true; the input reads as it did. -/
def predCubesUptoRow : OpenClaim := { program := "ytmhjnfkhfjejeaa", sum := "4c4efd5f9494cb43f3bd5733000fa04a383e5e196e838aac219a1590f01bdc7a", func := "drover/droverlaw16.PredCubes", spec := "predCubes", unfollowed := true, recurses := true, apart := false, narrowed := true }
def PredCubesUptoSaid : Prop := predCubesUptoRow.holds Try.pinned (OpenSpec.upto predCubesSpec)

/-- 'droverlaw16.PredApart', WHERE WHAT IT READS IS OF BULK AT MOST 1048576: true; the input reads as it did. -/
def predApartUptoRow : OpenClaim := { program := "ytmhjnfkhfjejeaa", sum := "4c4efd5f9494cb43f3bd5733000fa04a383e5e196e838aac219a1590f01bdc7a", func := "drover/droverlaw16.PredApart", spec := "predApart", unfollowed := true, recurses := true, apart := false, narrowed := true }
def PredApartUptoSaid : Prop := predApartUptoRow.holds Try.pinned (OpenSpec.upto predApartSpec)

/-- 'droverlaw16.PredCuts', WHERE WHAT IT READS IS OF BULK AT MOST 1048576: true; the input reads as it did. -/
def predCutsUptoRow : OpenClaim := { program := "ytmhjnfkhfjejeaa", sum := "4c4efd5f9494cb43f3bd5733000fa04a383e5e196e838aac219a1590f01bdc7a", func := "drover/droverlaw16.PredCuts", spec := "predCuts", unfollowed := true, recurses := true, apart := false, narrowed := true }
def PredCutsUptoSaid : Prop := predCutsUptoRow.holds Try.pinned (OpenSpec.upto predCutsSpec)

/-- 'droverlaw16.PredParts', WHERE WHAT IT READS IS OF BULK AT MOST 1048576: true; the input reads as it did. -/
def predPartsUptoRow : OpenClaim := { program := "ytmhjnfkhfjejeaa", sum := "4c4efd5f9494cb43f3bd5733000fa04a383e5e196e838aac219a1590f01bdc7a", func := "drover/droverlaw16.PredParts", spec := "predParts", unfollowed := true, recurses := true, apart := false, narrowed := true }
def PredPartsUptoSaid : Prop := predPartsUptoRow.holds Try.pinned (OpenSpec.upto predPartsSpec)

/-- 'droverlaw16.PredClash', WHERE WHAT IT READS IS OF BULK AT MOST 1048576: true; the input reads as it did. -/
def predClashUptoRow : OpenClaim := { program := "ytmhjnfkhfjejeaa", sum := "4c4efd5f9494cb43f3bd5733000fa04a383e5e196e838aac219a1590f01bdc7a", func := "drover/droverlaw16.PredClash", spec := "predClash", unfollowed := true, recurses := true, apart := false, narrowed := true }
def PredClashUptoSaid : Prop := predClashUptoRow.holds Try.pinned (OpenSpec.upto predClashSpec)

/-- 'droverlaw16.PredMeets', WHERE WHAT IT READS IS OF BULK AT MOST 1048576: true; the input reads as it did. -/
def predMeetsUptoRow : OpenClaim := { program := "ytmhjnfkhfjejeaa", sum := "4c4efd5f9494cb43f3bd5733000fa04a383e5e196e838aac219a1590f01bdc7a", func := "drover/droverlaw16.PredMeets", spec := "predMeets", unfollowed := true, recurses := true, apart := false, narrowed := true }
def PredMeetsUptoSaid : Prop := predMeetsUptoRow.holds Try.pinned (OpenSpec.upto predMeetsSpec)

end Rows
end Go.Proofs.Ytmhjnfkhfjejeaa
