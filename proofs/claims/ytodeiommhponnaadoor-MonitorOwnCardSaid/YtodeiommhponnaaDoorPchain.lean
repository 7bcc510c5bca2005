import Derived.Test.YtodeiommhponnaaDoorPtxt
import Derived.Test.YtodeiommhponnaaDoorPl
set_option linter.unusedSimpArgs false
set_option linter.unusedVariables false
namespace Go.Sl
namespace Pu
open Go.Sl Go.Sl.M
abbrev Hash := Vector (BitVec 8) 32
abbrev Ver := Int × Int × Hash × Hash × List (BitVec 8)
def hz : Hash := Vector.replicate 32 (0#8)
def four (n : Int) : List (BitVec 8) := be (BitVec.ofInt 32 n) 4
theorem ofInt8_sh (n : Int) (k a : Nat) (ha : ishr n k = n.fdiv (a : Int)) (h2 : 2 ^ k = a) (hk : a = 1 ∨ a = 256 ∨ a = 65536 ∨ a = 16777216) : BitVec.ofInt 8 (ishr n k) = ((BitVec.ofInt 32 n) >>> k).setWidth 8 := by
  apply BitVec.eq_of_toNat_eq
  rw [BitVec.toNat_setWidth, BitVec.toNat_ushiftRight, Nat.shiftRight_eq_div_pow, BitVec.toNat_ofInt, BitVec.toNat_ofInt, ha, h2]
  have h2 : Int.fdiv n (a : Int) = n / (a : Int) := Int.fdiv_eq_ediv_of_nonneg _ (by omega)
  rw [h2]
  have e1 : ((2 ^ 8 : Nat) : Int) = 256 := by decide
  have e2 : ((2 ^ 32 : Nat) : Int) = 4294967296 := by decide
  have e3 : (2 ^ 8 : Nat) = 256 := by decide
  rw [e1, e2, e3]
  rcases hk with rfl | rfl | rfl | rfl <;> omega
theorem cfour_eq (n : Int) : chain_four n = some (four n) := by
  unfold chain_four four
  have h0 : BitVec.ofInt 8 n = (BitVec.ofInt 32 n).setWidth 8 := by
    apply BitVec.eq_of_toNat_eq
    rw [BitVec.toNat_setWidth, BitVec.toNat_ofInt, BitVec.toNat_ofInt]
    have e1 : ((2 ^ 8 : Nat) : Int) = 256 := by decide
    have e2 : ((2 ^ 32 : Nat) : Int) = 4294967296 := by decide
    have e3 : (2 ^ 8 : Nat) = 256 := by decide
    rw [e1, e2, e3]; omega
  have h1 := ofInt8_sh n 24 16777216 rfl (by decide) (by omega)
  have h2 := ofInt8_sh n 16 65536 rfl (by decide) (by omega)
  have h3 := ofInt8_sh n 8 256 rfl (by decide) (by omega)
  have e1 : ishr n ((24 : Nat) : Int) = ishr n 24 := rfl
  have e2 : ishr n ((16 : Nat) : Int) = ishr n 16 := rfl
  have e3 : ishr n ((8 : Nat) : Int) = ishr n 8 := rfl
  rw [← e1, ← e2, ← e3, h0, h1, h2, h3]
  simp [be, List.range, List.range.loop]
theorem rfour_eq (n : Int) : rolodexref14_four n = some (four n) := by
  unfold rolodexref14_four
  have hn : rolodexref01_Number (BitVec.ofInt 64 n % 4294967296#64) 4 = some (be (BitVec.ofInt 64 n % 4294967296#64) 4) := number_eq _ 4 (by omega)
  rw [bind_some' hn]
  unfold four be
  congr 1
  apply List.map_congr_left
  intro j hj
  have hj' := List.mem_range.1 hj
  apply BitVec.eq_of_toNat_eq
  simp only [BitVec.toNat_setWidth, BitVec.toNat_ushiftRight, BitVec.toNat_umod, BitVec.toNat_ofInt, Nat.shiftRight_eq_div_pow]
  have e : (n % ((2 ^ 64 : Nat) : Int)).toNat % (4294967296#64).toNat = (n % ((2 ^ 32 : Nat) : Int)).toNat := by
    have : (4294967296#64).toNat = 4294967296 := by decide
    rw [this]; omega
  rw [e]
theorem four_len (n : Int) : (four n).length = 4 := be_len _ _
def cparts (label : List (BitVec 8)) (v : Ver) : List (List (BitVec 8)) := [label, four v.1, four v.2.1, v.2.2.1.toList, v.2.2.2.1.toList, v.2.2.2.2]
def ctext (label : List (BitVec 8)) (v : Ver) : List (BitVec 8) := text 99#8 (cparts label v)
def commit (label : List (BitVec 8)) (v : Ver) : Hash := sha (ctext label v)
theorem cparts_size (label : List (BitVec 8)) (v : Ver) : tsize (cparts label v) = 96 + label.length + v.2.2.2.2.length := by
  simp [tsize, cparts, four_len]; omega
section
variable {label : List (BitVec 8)} (hl : label.length ≤ 1000000)
include hl
theorem ctext_eq {v : Ver} (hv : v.2.2.2.2.length ≤ 1000000) : chain_Text label v = some (ctext label v) := by
  unfold chain_Text
  rw [bind_some' (cfour_eq _), bind_some' (cfour_eq _)]
  rw [show [label, four v.1, four v.2.1, v.2.2.1.toList, v.2.2.2.1.toList, v.2.2.2.2] = cparts label v from rfl]
  rw [bind_some' (text_eq _ _ (by rw [cparts_size]; omega))]; rfl
theorem rctext_eq {v : Ver} (hv : v.2.2.2.2.length ≤ 1000000) : rolodexref14_Text label v = some (ctext label v) := by
  unfold rolodexref14_Text
  rw [bind_some' (rfour_eq _), bind_some' (rfour_eq _)]
  rw [show [label, four v.1, four v.2.1, v.2.2.1.toList, v.2.2.2.1.toList, v.2.2.2.2] = cparts label v from rfl]
  rw [bind_some' (rtext_eq _ _ (by rw [cparts_size]; omega))]; rfl
theorem ctext_len {v : Ver} (hv : v.2.2.2.2.length ≤ 1000000) : (ctext label v).length ≤ 2000097 := by
  unfold ctext; rw [text_len, cparts_size]; omega
theorem commit_eq {v : Ver} (hv : v.2.2.2.2.length ≤ 1000000) : chain_Commit label v = some (commit label v) := by
  unfold chain_Commit
  have := ctext_len hl hv
  rw [bind_some' (ctext_eq hl hv), bind_some' (sum_eq _ (by omega))]; rfl
theorem rcommit_eq {v : Ver} (hv : v.2.2.2.2.length ≤ 1000000) : rolodexref14_Commit label v = some (commit label v) := by
  unfold rolodexref14_Commit
  have := ctext_len hl hv
  rw [bind_some' (rctext_eq hl hv), bind_some' (sumr_eq _ (by omega))]; rfl
end
end Pu
end Go.Sl
