/- Rows of rows of bytes. -/
import Derived.Test.YthkbnmlelolljaaRv
namespace Go.Proofs.Ythkbnmlelolljaa.Ra
open Go Go.RowKit
set_option linter.unusedVariables false
set_option linter.unusedSimpArgs false
set_option maxRecDepth 10000
end Go.Proofs.Ythkbnmlelolljaa.Ra
