import Derived.Test.YtbaecpklplkciaaDoorPls2
set_option linter.unusedSimpArgs false
set_option linter.unusedVariables false
set_option maxRecDepth 20000
/-! The laws of the trees of keys. -/
namespace Go.Sl.Pu
open Go.Sl Go.Sl.M
attribute [local irreducible] sha w64 pubk und sigk ndh recov val hat
/-! ## What was signed is right -/
end Go.Sl.Pu
