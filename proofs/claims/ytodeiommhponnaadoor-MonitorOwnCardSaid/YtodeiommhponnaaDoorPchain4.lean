import Derived.Test.YtodeiommhponnaaDoorPchain3
set_option linter.unusedSimpArgs false
set_option linter.unusedVariables false
set_option linter.unusedSectionVars false
namespace Go.Sl
namespace Pu
open Go.Sl Go.Sl.M
theorem ok_iff {e : Int} {h : Hash} {i : Nat} {v : Ver} : ok e h i v = true ↔ v.1 = (i : Int) + 1 ∧ e < v.2.1 ∧ v.2.1 < 2147483648 ∧ v.2.2.2.1 = h ∧ v.2.2.2.2.length ≤ 64 := by
  unfold ok
  simp only [Bool.and_eq_true, decide_eq_true_eq, and_assoc]
theorem fm_le (label : List (BitVec 8)) : ∀ (l : List Ver) (e : Int) (h : Hash) (i : Nat), fm label e h i l = true → e ≤ lastE l e
  | [], _, _, _, _ => Int.le_refl _
  | v :: l, e, h, i, hf => by
    simp only [fm, Bool.and_eq_true, ok_iff] at hf
    have := fm_le label l _ _ _ hf.2
    rw [lastE_cons]; omega
theorem fm_ep (label : List (BitVec 8)) : ∀ (l : List Ver) (e : Int) (h : Hash) (i : Nat), fm label e h i l = true → ∀ v ∈ l, e < v.2.1 ∧ v.2.1 ≤ lastE l e ∧ v.2.1 < 2147483648
  | [], _, _, _, _, v, hv => by cases hv
  | x :: l, e, h, i, hf, v, hv => by
    simp only [fm, Bool.and_eq_true, ok_iff] at hf
    rw [lastE_cons]
    rcases List.mem_cons.1 hv with rfl | hv
    · have := fm_le label l _ _ _ hf.2
      omega
    · have := fm_ep label l _ _ _ hf.2 v hv
      omega
/-! ## Two chains of one commitment -/
end Pu
end Go.Sl
