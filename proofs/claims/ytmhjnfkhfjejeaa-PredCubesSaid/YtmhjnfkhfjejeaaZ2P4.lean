import Derived.Test.YtmhjnfkhfjejeaaZ2P3
namespace Go.Proofs.Ytmhjnfkhfjejeaa
set_option linter.unusedVariables false
set_option linter.unusedSimpArgs false
open PPredCubes
/-! ### What is picked of the cubes -/
/-- What the laws need of one cube. -/
structure PickR (ns : List S52) (cu : List S47) (p : List Nat) : Prop where
  ok : okC cu
  whole : wholeC cu = true
  pick : pickC cu = p
  len : p.length = 10
  inn : inC cu p = true
  ev : evalB ns p = true
  lt : lt64 p
theorem cubesL_cases {ns : List S52} : (rightB ns = true ∧ boxesOk ns = true) ∨ cubesL ns = [] := by
  unfold cubesL
  cases rightB ns <;> cases boxesOk ns <;> simp
end Go.Proofs.Ytmhjnfkhfjejeaa
