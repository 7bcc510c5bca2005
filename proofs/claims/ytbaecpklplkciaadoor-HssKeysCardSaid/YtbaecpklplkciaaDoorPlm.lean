import Derived.Test.YtbaecpklplkciaaDoorPtxt
import Derived.Test.YtbaecpklplkciaaDoorPl
set_option linter.unusedSimpArgs false
set_option linter.unusedVariables false
namespace Go.Sl
/-! ## Loops that hand things to a function -/
section
variable {σ τ α : Type}
end
theorem ishr_nat (a k : Nat) (hk : k ≤ 64) : ishr (a : Int) (k : Int) = ((a / 2 ^ k : Nat) : Int) := by
  unfold ishr
  rw [Int.toNat_natCast, Nat.min_eq_left hk]
  have : ((2 : Int) ^ k) = ((2 ^ k : Nat) : Int) := by simp
  rw [this, Int.fdiv_eq_ediv_of_nonneg _ (Int.natCast_nonneg _)]; simp
theorem ishl_nat (a k : Nat) (hk : k ≤ 64) (h : a * 2 ^ k < 9223372036854775808) : ishl (a : Int) (k : Int) = ((a * 2 ^ k : Nat) : Int) := by
  unfold ishl
  rw [Int.toNat_natCast, Nat.min_eq_left hk]
  have : ((2 : Int) ^ k) = ((2 ^ k : Nat) : Int) := by simp
  rw [this, ← Int.natCast_mul, w64_nat h]
namespace Pu
open Go.Sl Go.Sl.M
/-- The bits of a kind's digit; its chains; its shift. -/
def bitsN : Nat → Nat
  | 1 => 1 | 2 => 2 | 3 => 4 | 4 => 8 | _ => 0
def chainsN : Nat → Nat
  | 1 => 265 | 2 => 133 | 3 => 67 | 4 => 34 | _ => 0
def shiftN : Nat → Nat
  | 1 => 7 | 2 => 6 | 3 => 4 | _ => 0
def IsKind (k : Nat) : Prop := k = 1 ∨ k = 2 ∨ k = 3 ∨ k = 4
instance (k : Nat) : Decidable (IsKind k) := by unfold IsKind; infer_instance
abbrev frm (k : Nat) : T_lmots_form := ((bitsN k : Int), (chainsN k : Int), (shiftN k : Int))
theorem of_eq {k : Nat} (hk : IsKind k) : lmots_of (k : Int) = some (frm k, true) := by
  rcases hk with rfl | rfl | rfl | rfl <;> rfl
theorem of_none {k : Int} (hk : ¬ (1 ≤ k ∧ k ≤ 4)) : lmots_of k = some ((0, 0, 0), false) := by
  unfold lmots_of
  by_cases h : k < 1
  · rw [if_t (by simpa using h), Option.bind_some, if_t rfl]
  · rw [if_f (by simpa using h), Option.bind_some, if_t (by simp; omega)]
theorem kind_of {k : Int} (hk : 1 ≤ k ∧ k ≤ 4) : ∃ n : Nat, k = (n : Int) ∧ IsKind n := ⟨k.toNat, by omega, by unfold IsKind; omega⟩
theorem most_eq {k : Nat} (hk : IsKind k) : lmots_form_most (frm k) = some ((2 ^ bitsN k - 1 : Nat) : Int) := by
  rcases hk with rfl | rfl | rfl | rfl <;> rfl
theorem bits_cases {k : Nat} (hk : IsKind k) : bitsN k = 1 ∨ bitsN k = 2 ∨ bitsN k = 4 ∨ bitsN k = 8 := by
  rcases hk with rfl | rfl | rfl | rfl <;> simp [bitsN]
/-- The digits of a byte. -/
def dg (bits c j : Nat) : Nat := c / 2 ^ (8 - bits * (j + 1)) % 2 ^ bits
def dgs (bits : Nat) (c : BitVec 8) : List Int := (List.range (8 / bits)).map fun j => (dg bits c.toNat j : Int)
def digs (bits : Nat) (b : List (BitVec 8)) : List Int := b.flatMap (dgs bits)
/-! ## The program's cut -/
/-- The check sum. -/
def csum (bits : Nat) (b : List (BitVec 8)) : Nat := ((digs bits b).map fun d => (2 ^ bits - 1 : Nat) - d.toNat).sum
/-- The check sum's two bytes. -/
def csb (k : Nat) (h : List (BitVec 8)) : List (BitVec 8) := [BitVec.ofNat 8 (csum (bitsN k) h * 2 ^ shiftN k / 256), BitVec.ofNat 8 (csum (bitsN k) h * 2 ^ shiftN k)]
/-- The digits of a hash. -/
def digl (k : Nat) (h : T_api_Hash) : List Int := (digs (bitsN k) (h.toList ++ csb k h.toList)).take (chainsN k)
theorem chains_eq {k : Nat} (hk : IsKind k) : lmots_Chains (k : Int) = some (chainsN k : Int) := by
  unfold lmots_Chains; rw [bind_some' (of_eq hk)]
theorem chains_none {k : Int} (hk : ¬ (1 ≤ k ∧ k ≤ 4)) : lmots_Chains k = some 0 := by
  unfold lmots_Chains; rw [bind_some' (of_none hk)]
def sizeN (k : Nat) : Nat := 36 + 32 * chainsN k
theorem size_eq {k : Nat} (hk : IsKind k) : lmots_Size (k : Int) = some (sizeN k : Int) := by
  rcases hk with rfl | rfl | rfl | rfl <;> rfl
/-! ## The reference's -/
theorem rbits_eq {k : Nat} (hk : IsKind k) : rolodexref04_Bits (k : Int) = some (bitsN k : Int) := by rcases hk with rfl | rfl | rfl | rfl <;> rfl
theorem rbits_none {k : Int} (hk : ¬ (1 ≤ k ∧ k ≤ 4)) : rolodexref04_Bits k = some 0 := by
  unfold rolodexref04_Bits
  rw [if_f (by simp; omega), Option.bind_some, if_f (by simp; omega), if_f (by simp; omega), if_f (by simp; omega)]
theorem rchains_eq {k : Nat} (hk : IsKind k) : rolodexref04_Chains (k : Int) = some (chainsN k : Int) := by rcases hk with rfl | rfl | rfl | rfl <;> rfl
theorem rsize_eq {k : Nat} (hk : IsKind k) : rolodexref04_Size (k : Int) = some (sizeN k : Int) := by rcases hk with rfl | rfl | rfl | rfl <;> rfl
theorem rmost_eq {k : Nat} (hk : IsKind k) : rolodexref04_Most (k : Int) = some ((2 ^ bitsN k - 1 : Nat) : Int) := by
  rcases hk with rfl | rfl | rfl | rfl <;> rfl
theorem be2 {w : Nat} (x : BitVec w) : be x 2 = [(x >>> 8).setWidth 8, x.setWidth 8] := by simp [be, List.range_succ]
end Pu
end Go.Sl
