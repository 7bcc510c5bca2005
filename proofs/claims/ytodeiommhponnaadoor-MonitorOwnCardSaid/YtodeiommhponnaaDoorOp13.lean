import Derived.Test.YtodeiommhponnaaDoorOp12
set_option linter.unusedSimpArgs false
set_option linter.unusedVariables false
set_option linter.unusedSectionVars false
namespace Go.Sl
section
variable {c : Ctx} {full : Array Oper} {l : List Oper} {Γ Γ' : Env} {H H' : List Ent} {K : Act → World → Prop} {d : Tmp} {od : Option Tmp} {ty : TypeId} {pos : String} {aft : Array Edge} {g : Option (Nat × Bool)} {α β : Type}
/-! ## A slice that is known to be nil -/
/-! ## A byte of a string -/
/-! ## Own slices within objects that are made to stay -/
/-! ## An object, or none -/
end
end Go.Sl
