import Derived.Test.YtmhjnfkhfjejeaaZ2P4
namespace Go.Proofs.Ytmhjnfkhfjejeaa
set_option linter.unusedVariables false
set_option linter.unusedSimpArgs false
open Go.RowKit Go.Proofs.YtmhjnfkhfjejeaaW.PrintWords Go.Proofs.YtmhjnfkhfjejeaaW.PrintLast Go.Proofs.YtmhjnfkhfjejeaaW.PrintMore
open PPredCubes
/-! ### Disjoint, and the values of both -/
/-- What the law needs of two cubes that meet. -/
structure MeetR (ns ms : List S52) (cu cv : List S47) (p : List Nat) : Prop where
  ok : okC (meetC cu cv)
  pick : pickC (meetC cu cv) = p
  len : p.length = 10
  ev1 : evalB ns p = true
  ev2 : evalB ms p = true
  lt : lt64 p
theorem disj_v (A A2 : Option Addr) (c c2 : Nat) (ns ms : List S52) (hP : okP ns) (hP2 : okP ms) (w : World) (hr : k52.C w A ns.length ns) (hr2 : k52.C w A2 ms.length ms) (hc : ns.length ≤ c) (hc2 : ms.length ≤ c2) :
    Calls Try.prog 33 #[.agg #[.slice A ns.length c], .agg #[.slice A2 ms.length c2]] w fun e w' => e = .returned (.tuple #[.bool (apartB ns ms), .int .i64 (apartE ns ms)]) ∧ Below w.heap.size w w' :=
  (disj_any A A2 c c2 ns ms hP hP2 w hr hr2 hc hc2).mono fun e w' h => ⟨h.1, h.2⟩
end Go.Proofs.Ytmhjnfkhfjejeaa
