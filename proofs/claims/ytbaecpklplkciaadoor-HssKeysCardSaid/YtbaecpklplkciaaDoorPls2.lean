import Derived.Test.YtbaecpklplkciaaDoorPls1
set_option linter.unusedSimpArgs false
set_option linter.unusedVariables false
set_option maxRecDepth 20000
/-! Trees of keys: verifying. -/
namespace Go.Sl.Pu
open Go.Sl Go.Sl.M
attribute [local irreducible] sha w64 pubk und sigk ndh recov val hat
/-- The number in four bytes. -/
def n4 (b : List (BitVec 8)) (i : Nat) : Nat := (val ((b.drop i).take 4)).toNat
/-- The hashes in bytes, from a place on. -/
def hats (b : List (BitVec 8)) (p h : Nat) : List T_api_Hash := (List.range h).map fun i => hat b (p + 32 * i)
/-- Up a path. -/
def climbv (id : T_api_ID) : Nat → T_api_Hash → List T_api_Hash → T_api_Hash
  | _, h, [] => h
  | r, h, x :: l => climbv id (r / 2) (if r % 2 = 1 then ndh id (r / 2) 33667 (x.toList ++ h.toList) else ndh id (r / 2) 33667 (h.toList ++ x.toList)) l
/-- An id in bytes. -/
def idat (b : List (BitVec 8)) (off : Nat) : T_api_ID := Vector.ofFn fun j : Fin 16 => b.getD (off + j.val) 0#8
theorem idat_toList (b : List (BitVec 8)) (off : Nat) (h : off + 16 ≤ b.length) : (idat b off).toList = (b.drop off).take 16 := by
  apply List.ext_getElem?
  intro i
  rw [List.getElem?_take]
  by_cases hi : i < 16
  · rw [if_pos hi, List.getElem?_drop]
    have h2 : off + i < b.length := by omega
    have : (idat b off).toList[i]? = some (b.getD (off + i) 0#8) := by
      unfold idat
      rw [List.getElem?_eq_getElem (by simp; exact hi)]
      simp
    rw [this]; simp [h2]
  · rw [if_neg hi, List.getElem?_eq_none (by simp; omega)]
theorem idat_eq (b : List (BitVec 8)) (off : Nat) (h : off + 16 ≤ b.length) : toVecO 16 ((b.drop off).take 16) = some (idat b off) := by
  have hl : 16 ≤ ((b.drop off).take 16).length := by simp; omega
  unfold toVecO
  rw [dif_pos hl]
  refine congrArg some (Vector.toList_inj.1 ?_)
  rw [toVec_toList, idat_toList b off h, List.take_take, Nat.min_self]
/-- Where a signature leads. -/
def leads (h k : Nat) (id : T_api_ID) (msg sig : List (BitVec 8)) : T_api_Hash :=
  climbv id (KK h + n4 sig 0) (ndh id (KK h + n4 sig 0) 33410 (recov k id (BitVec.ofNat 32 (n4 sig 0)) msg ((sig.drop 4).take (sizeN k))).toList) (hats sig (8 + sizeN k) h)
def isT (h k : Nat) (sig : List (BitVec 8)) : Prop := n4 sig (4 + sizeN k) = h ∧ n4 sig 0 < KK h ∧ n4 ((sig.drop 4).take (sizeN k)) 0 = k
instance (h k : Nat) (sig : List (BitVec 8)) : Decidable (isT h k sig) := by unfold isT; infer_instance
/-- Right signatures of trees. -/
def vrf (p msg sig : List (BitVec 8)) : Bool :=
  decide (p.length = 56 ∧ (1 ≤ n4 p 0 ∧ n4 p 0 ≤ 4) ∧ (1 ≤ n4 p 4 ∧ n4 p 4 ≤ 4) ∧ sig.length = 8 + sizeN (n4 p 4) + 32 * n4 p 0 ∧ isT (n4 p 0) (n4 p 4) sig ∧ (leads (n4 p 0) (n4 p 4) (idat p 8) msg sig).toList = (p.drop 24).take 32)
/-! ## The reference -/
end Go.Sl.Pu
