import Derived.Test.YtodeiommhponnaaDoorPchain2
set_option linter.unusedSimpArgs false
set_option linter.unusedVariables false
set_option linter.unusedSectionVars false
namespace Go.Sl
namespace Pu
open Go.Sl Go.Sl.M
def lastE (l : List Ver) (e : Int) : Int := match l.getLast? with | some v => v.2.1 | none => e
theorem lastE_cons (v : Ver) (l : List Ver) (e : Int) : lastE (v :: l) e = lastE l v.2.1 := by
  cases l with
  | nil => rfl
  | cons w l => unfold lastE; rw [List.getLast?_cons_cons, List.getLast?_eq_some_getLast (List.cons_ne_nil w l)]
theorem formed_ne {label : List (BitVec 8)} {l : List Ver} (h : l ≠ []) : formed label l = (isl label && fm label 0 hz 0 l) := by
  unfold formed; simp [h]
section
variable {label : List (BitVec 8)} (hl : label.length ≤ 1000000) (seed : Hash) (l : List Ver) (epoch : Int) (value : List (BitVec 8)) (hn : l.length ≤ 1000000000) (hv : value.length ≤ 1000000)
include hl hn hv
end
end Pu
end Go.Sl
