import Derived.Test.YtmhjnfkhfjejeaaZ2P2
import Derived.Test.YtmhjnfkhfjejeaaZ2H2
namespace Go.Proofs.Ytmhjnfkhfjejeaa
set_option linter.unusedVariables false
set_option linter.unusedSimpArgs false
open Go.RowKit Go.Proofs.YtmhjnfkhfjejeaaW.PrintWords Go.Proofs.YtmhjnfkhfjejeaaW.PrintLast Go.Proofs.YtmhjnfkhfjejeaaW.PrintMore
open PPredCubes
/-! ### Rows of cubes, read -/
end Go.Proofs.Ytmhjnfkhfjejeaa
