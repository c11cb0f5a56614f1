/- bytes.Clone. -/
import Derived.Test.YtoohookgimkhbaaSe
namespace Go.Proofs.Ytoohookgimkhbaa.Ra
open Go Go.RowKit
set_option linter.unusedVariables false
set_option linter.unusedSimpArgs false
set_option maxRecDepth 10000
end Go.Proofs.Ytoohookgimkhbaa.Ra
