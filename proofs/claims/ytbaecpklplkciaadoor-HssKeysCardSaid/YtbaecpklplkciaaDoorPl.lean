import Derived.Test.YtbaecpklplkciaaDoorPb
set_option linter.unusedSimpArgs false
set_option linter.unusedVariables false
namespace Go.Sl
/-! ## Loops over a list -/
section
variable {α τ σ ρ : Type}
end
end Go.Sl
