import Derived.Test.YtdpffbhgkldphaaDoorPsum2
set_option linter.unusedSimpArgs false
set_option linter.unusedVariables false
namespace Go.Sl.Pu
open Go.Sl Go.Sl.M
theorem awake02 : rolodexlaw02_awake = some true := by decide +kernel
theorem hashSums (b : List (BitVec 8)) : rolodexlaw02_HashSums b = some true := by
  unfold rolodexlaw02_HashSums
  rw [bind_some' awake02]
  rw [if_f (by simp), Option.bind_some]
  by_cases h : 2000 < b.length
  · rw [if_t (by simp; omega), bind_some' awake02]
  · rw [if_f (by simp; omega), bind_some' (sum_eq b (by omega)), bind_some' (sumr_eq b (by omega))]
    simp
end Go.Sl.Pu
