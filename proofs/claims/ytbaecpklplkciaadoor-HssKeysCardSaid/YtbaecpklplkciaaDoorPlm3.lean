import Derived.Test.YtbaecpklplkciaaDoorPlm2
set_option linter.unusedSimpArgs false
set_option linter.unusedVariables false
namespace Go.Sl.Pu
open Go.Sl Go.Sl.M
/-! ## Signatures -/
def sdig (k : Nat) (id : T_api_ID) (q : BitVec 32) (salt msg : List (BitVec 8)) : List Int := digl k (und id q 33153 (salt ++ msg))
def dgt (l : List Int) (i : Nat) : Nat := (l.getD i 0).toNat
def saltv (id : T_api_ID) (q : BitVec 32) (seed : T_api_Hash) : T_api_Hash := begn id q 65533 seed
def sigk (k : Nat) (id : T_api_ID) (q : BitVec 32) (seed : T_api_Hash) (msg : List (BitVec 8)) : List (BitVec 8) :=
  (be (BitVec.ofNat 32 k) 4 ++ (saltv id q seed).toList) ++ cat (chainsN k) fun i => steps id q i 0 (dgt (sdig k id q (saltv id q seed).toList msg) i) (begn id q i seed)
theorem be64_4 (n : Nat) : be (BitVec.ofNat 64 n) 4 = be (BitVec.ofNat 32 n) 4 := by
  simp only [be]
  apply List.map_congr_left
  intro j hj
  have hj := List.mem_range.1 hj
  apply BitVec.eq_of_toNat_eq
  simp only [BitVec.toNat_setWidth, BitVec.toNat_ushiftRight, BitVec.toNat_ofNat, Nat.shiftRight_eq_div_pow]
  have : j = 0 ∨ j = 1 ∨ j = 2 ∨ j = 3 := by omega
  rcases this with rfl | rfl | rfl | rfl <;> simp <;> omega
theorem rNum4 (n : Nat) : rolodexref01_Number (BitVec.ofInt 64 (n : Int)) (4 : Int) = some (be (BitVec.ofNat 32 n) 4) := by
  rw [ofInt64, ← be64_4]; exact number_eq _ 4 (by omega)
/-! ## Recovering -/
/-- The 32 bytes at a place. -/
def hat (b : List (BitVec 8)) (off : Nat) : T_api_Hash := Vector.ofFn fun j : Fin 32 => b.getD (off + j.val) 0#8
def recov (k : Nat) (id : T_api_ID) (q : BitVec 32) (msg sig : List (BitVec 8)) : T_api_Hash :=
  und id q 32896 (cat (chainsN k) fun i => steps id q i (dgt (sdig k id q ((sig.drop 4).take 32) msg) i) (mostN k - dgt (sdig k id q ((sig.drop 4).take 32) msg) i) (hat sig (36 + 32 * i)))
end Go.Sl.Pu
