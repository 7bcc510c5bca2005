import Derived.Test.YtheldkljmefbaaaPwire
set_option linter.unusedSimpArgs false
set_option linter.unusedVariables false
set_option maxRecDepth 20000
namespace Go.Sl.Pu
open Go.Sl Go.Sl.M
theorem ofInt64 (n : Nat) : BitVec.ofInt 64 (n : Int) = BitVec.ofNat 64 n := by apply BitVec.eq_of_toNat_eq; simp
theorem ofInt32 (n : Nat) : BitVec.ofInt 32 (n : Int) = BitVec.ofNat 32 n := by apply BitVec.eq_of_toNat_eq; simp
theorem be64_4 (n : Nat) : be (BitVec.ofNat 64 n) 4 = be (BitVec.ofNat 32 n) 4 := by
  simp only [be]
  apply List.map_congr_left
  intro j hj
  have hj := List.mem_range.1 hj
  apply BitVec.eq_of_toNat_eq
  simp only [BitVec.toNat_setWidth, BitVec.toNat_ushiftRight, BitVec.toNat_ofNat, Nat.shiftRight_eq_div_pow]
  have : j = 0 ∨ j = 1 ∨ j = 2 ∨ j = 3 := by omega
  rcases this with rfl | rfl | rfl | rfl <;> simp <;> omega
theorem rNum4 (n : Nat) : rolodexref01_Number (BitVec.ofInt 64 (n : Int)) (4 : Int) = some (be (BitVec.ofNat 32 n) 4) := by
  rw [ofInt64, ← be64_4]; exact number_eq _ 4 (by omega)
def hat (b : List (BitVec 8)) (off : Nat) : T_api_Hash := Vector.ofFn fun j : Fin 32 => b.getD (off + j.val) 0#8
theorem hat_toList (b : List (BitVec 8)) (off : Nat) (h : off + 32 ≤ b.length) : (hat b off).toList = (b.drop off).take 32 := by
  apply List.ext_getElem?
  intro i
  rw [List.getElem?_take]
  by_cases hi : i < 32
  · rw [if_pos hi, List.getElem?_drop]
    have h2 : off + i < b.length := by omega
    have : (hat b off).toList[i]? = some (b.getD (off + i) 0#8) := by
      unfold hat
      rw [List.getElem?_eq_getElem (by simp; exact hi)]
      simp
    rw [this]; simp [h2]
  · rw [if_neg hi, List.getElem?_eq_none (by simp; omega)]
theorem hat_eq (b : List (BitVec 8)) (off : Nat) (h : off + 32 ≤ b.length) : toVecO 32 ((b.drop off).take 32) = some (hat b off) := by
  have hl : 32 ≤ ((b.drop off).take 32).length := by simp; omega
  unfold toVecO
  rw [dif_pos hl]
  refine congrArg some (Vector.toList_inj.1 ?_)
  rw [toVec_toList, hat_toList b off h, List.take_take, Nat.min_self]
def n4 (b : List (BitVec 8)) (i : Nat) : Nat := (val ((b.drop i).take 4)).toNat
theorem n4_lt (b : List (BitVec 8)) (i : Nat) : n4 b i < 4294967296 := by
  have := val_lt ((b.drop i).take 4) 4 (by simp; omega) (by omega)
  unfold n4
  have h32 : (2 : Nat) ^ (8 * 4) = 4294967296 := by decide
  omega
theorem n4_w (b : List (BitVec 8)) (i : Nat) : (((val ((b.drop i).take 4)).setWidth 32).toNat : Int) = (n4 b i : Int) := by
  have := n4_lt b i
  unfold n4 at this ⊢
  rw [BitVec.toNat_setWidth, Nat.mod_eq_of_lt (by omega)]
theorem rU32_at (b : List (BitVec 8)) (i : Nat) (h : i + 4 ≤ b.length) : wire_Reader_U32 (b.drop i, false) = some ((b.drop (i + 4), false), (val ((b.drop i).take 4)).setWidth 32) := by
  rw [rU32_eq _ (by rw [List.length_drop]; omega), List.drop_drop]
theorem rPlain_at (b : List (BitVec 8)) (i n : Nat) (h : i + n ≤ b.length) : wire_Reader_Plain (b.drop i, false) (n : Int) = some ((b.drop (i + n), false), (b.drop i).take n) := by
  rw [rPlain_eq _ n (by rw [List.length_drop]; omega), List.drop_drop]
theorem w64_n4 (b : List (BitVec 8)) (i : Nat) : w64 ((val ((b.drop i).take 4)).toNat : Int) = (n4 b i : Int) := by
  have := n4_lt b i
  show w64 ((n4 b i : Nat) : Int) = _
  rw [w64_id (by omega) (by omega)]
theorem rsl4 (b : List (BitVec 8)) (lo hi : Int) (i : Nat) (h1 : lo = (i : Int)) (h2 : hi = ((i + 4 : Nat) : Int)) (h : i + 4 ≤ b.length) : lslice b lo hi = some ((b.drop i).take 4) := by
  rw [lslice_at h1 h2 (by omega) h, List.drop_take, Nat.add_sub_cancel_left]
theorem n4_mid (A B : List (BitVec 8)) (x i : Nat) (hx : x < 4294967296) (hA : A.length = i) : n4 (A ++ (be (BitVec.ofNat 32 x) 4 ++ B)) i = x := by
  unfold n4
  rw [← hA, List.drop_left, List.take_append_of_le_length (by rw [be_len]; exact Nat.le_refl _), List.take_of_length_le (by rw [be_len]; exact Nat.le_refl _), val_four, BitVec.toNat_setWidth, BitVec.toNat_ofNat]
  omega
theorem hat_mid (A B : List (BitVec 8)) (x : T_api_Hash) (i : Nat) (hA : A.length = i) : hat (A ++ (x.toList ++ B)) i = x := by
  apply Vector.toList_inj.1
  rw [hat_toList _ _ (by rw [List.length_append, List.length_append, Vector.length_toList]; omega), ← hA, List.drop_left, List.take_left' (by simp)]
theorem hap_ok {n : Nat} (h : n ≤ 4294967296) : n ≤ AP := h
end Go.Sl.Pu
