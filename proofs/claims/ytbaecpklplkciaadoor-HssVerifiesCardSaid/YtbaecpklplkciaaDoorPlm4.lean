import Derived.Test.YtbaecpklplkciaaDoorPlm3
set_option linter.unusedSimpArgs false
set_option linter.unusedVariables false
namespace Go.Sl.Pu
open Go.Sl Go.Sl.M
/-! ## What was signed leads to the public key -/
end Go.Sl.Pu
