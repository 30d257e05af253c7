-- Printed by the kit for this claim; unused laws left out
import Derived.Test.YtmhjnfkhfjejeaaZ1WLast
import Derived.Test.YtmhjnfkhfjejeaaZ1WWords
/-! ### 50. A region's order in a table, made once a region: each step asks the table (numbers alone), not the operations -/
namespace Go.Proofs.YtmhjnfkhfjejeaaW.PrintLast
open Go.Proofs.YtmhjnfkhfjejeaaW.PrintWords (Aside0)
section
variable {md : Region.Mode} {ops : Array Oper} {T : Bool × List (List Nat × List Nat)} {l l' li lj lk : Array Bool} {ds : List Nat} {i j k : Nat}
end
end Go.Proofs.YtmhjnfkhfjejeaaW.PrintLast
