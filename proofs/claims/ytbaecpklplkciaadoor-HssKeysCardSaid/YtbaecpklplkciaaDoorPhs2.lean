import Derived.Test.YtbaecpklplkciaaDoorPhs1
set_option linter.unusedSimpArgs false
set_option linter.unusedVariables false
set_option maxRecDepth 20000
/-! Signers: verifying, and the laws. -/
namespace Go.Sl.Pu
open Go.Sl Go.Sl.M
attribute [local irreducible] sha w64 pubk und sigk ndh recov val hat tagged pubT sigT idat nodesS vrf hsig hpub n4
def okP (p : List (BitVec 8)) : Prop := (1 ≤ n4 p 4 ∧ n4 p 4 ≤ 4) ∧ (1 ≤ n4 p 8 ∧ n4 p 8 ≤ 4)
instance (p : List (BitVec 8)) : Decidable (okP p) := by unfold okP; infer_instance
/-! ## What was signed is right -/
end Go.Sl.Pu
