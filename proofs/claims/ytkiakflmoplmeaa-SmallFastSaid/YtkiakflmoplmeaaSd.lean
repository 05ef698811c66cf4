/- The walks through package soft: the whole part. -/
import Derived.Test.YtkiakflmoplmeaaSb
namespace Go.Proofs.Ytkiakflmoplmeaa
open Go.RowKit Fp
set_option linter.unusedVariables false
set_option linter.unusedSimpArgs false
end Go.Proofs.Ytkiakflmoplmeaa
