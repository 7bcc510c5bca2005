import Derived.Test.YtheldkljmefbaaaM
import Derived.Test.YtheldkljmefbaaaPb
set_option linter.unusedSimpArgs false
set_option linter.unusedVariables false
/-! The hash: the program's and the reference's are one. -/
namespace Go.Sl.Pu
open Go.Sl Go.Sl.M
/-! ## Bytes of a number -/
def be {w : Nat} (x : BitVec w) (k : Nat) : List (BitVec 8) := (List.range k).map fun j => (x >>> (8 * (k - 1 - j))).setWidth 8
theorem be_len {w : Nat} (x : BitVec w) (k : Nat) : (be x k).length = k := by simp [be]
def le {w : Nat} (x : BitVec w) (k : Nat) : List (BitVec 8) := (List.range k).map fun j => (x >>> (8 * j)).setWidth 8
theorem byte_mod (x : BitVec 64) : (x % 256#64).setWidth 8 = x.setWidth 8 := by
  apply BitVec.eq_of_toNat_eq
  simp [BitVec.toNat_setWidth, BitVec.toNat_umod]
theorem div_shift (x : BitVec 64) : x / 256#64 = x >>> 8 := by
  apply BitVec.eq_of_toNat_eq
  simp [BitVec.toNat_udiv, Nat.shiftRight_eq_div_pow]
theorem number_eq (x : BitVec 64) (k : Nat) (hk : k ≤ 1000) : rolodexref01_Number x k = some (be x k) := by
  unfold rolodexref01_Number
  have h1 := loopS_cnt (f := fun (s : (BitVec 64) × Int × (List (BitVec 8))) => rolodexref01_Number_L1 k s.1 s.2.1 s.2.2) (fun i (_ : Unit) => (x >>> (8 * i), (i : Int), le x i)) (fun _ s => s) 0 k (fun i s h1 h2 => by
      simp only [rolodexref01_Number_L1]
      rw [if_t (by simp; omega), if_t (by simp [le, AP]; omega), byte_mod, div_shift]
      have e : le x (i + 1) = le x i ++ [(x >>> (8 * i)).setWidth 8] := by simp [le, List.range_succ]
      rw [e, w64_eq (by omega), show 8 * (i + 1) = 8 * i + 8 by omega, BitVec.shiftRight_add]
      rfl) (fun s => by
      simp only [rolodexref01_Number_L1]
      rw [if_f (by simp)]) FU () (by omega) (fu_lt (by omega))
  have e0 : ((x, (0 : Int), ([] : List (BitVec 8))) : (BitVec 64) × Int × (List (BitVec 8))) = (x >>> (8 * 0), ((0 : Nat) : Int), le x 0) := by simp [le]
  rw [e0, bind_some' h1]
  -- the other way round
  have h2 := loopS_cnt (f := fun (s : Int × (List (BitVec 8))) => rolodexref01_Number_L2 (le x k) s.1 s.2) (fun i (_ : Unit) => ((k : Int) - 1 - i, (be x k).take i)) (fun _ s => s) 0 k (fun i s h1 h2 => by
      simp only [rolodexref01_Number_L2]
      rw [if_t (by simp; omega)]
      have hl : lget (le x k) ((k : Int) - 1 - i) = some ((x >>> (8 * (k - 1 - i))).setWidth 8) := by
        rw [lget_at (k := k - 1 - i) (by omega) (by simp [le]; omega)]
        simp [le]
      rw [bind_some' hl, if_t (by simp [AP]; omega), w64_eq (by omega)]
      have e : (be x k).take (i + 1) = (be x k).take i ++ [(x >>> (8 * (k - 1 - i))).setWidth 8] := by
        rw [List.take_succ_eq_append_getElem (by rw [be_len]; exact h2)]
        simp [be]
      rw [e]
      have : (k : Int) - 1 - (i : Int) - 1 = (k : Int) - 1 - ((i + 1 : Nat) : Int) := by omega
      rw [this]) (fun s => by
      simp only [rolodexref01_Number_L2]
      rw [if_f (by simp; omega)]) FU () (by omega) (fu_lt (by omega))
  have e1 : ((w64 ((k : Int) - 1), ([] : List (BitVec 8))) : Int × List (BitVec 8)) = ((k : Int) - 1 - ((0 : Nat) : Int), (be x k).take 0) := by
    rw [w64_eq (by omega)]; simp
  rw [e1, bind_some' h2, List.take_of_length_le (by rw [be_len]; omega)]
/-- The number that bytes stand for. -/
def val (b : List (BitVec 8)) : BitVec 64 := b.foldl (fun x c => x * 256#64 + c.setWidth 64) 0#64
theorem value_eq (b : List (BitVec 8)) (hb : b.length ≤ 4294967296) : rolodexref01_Value b = some (val b) := by
  unfold rolodexref01_Value
  have h1 := loopS_cnt (f := fun (s : (BitVec 64) × Int) => rolodexref01_Value_L1 b s.1 s.2) (fun i (_ : Unit) => (val (b.take i), (i : Int))) (fun _ s => s) 0 b.length (fun i s h1 h2 => by
      simp only [rolodexref01_Value_L1]
      have e : val (b.take (i + 1)) = val (b.take i) * 256#64 + b[i].setWidth 64 := by
        unfold val; rw [List.take_succ_eq_append_getElem h2, List.foldl_append]; rfl
      rw [if_t (by simp; omega), bind_some' (lget_at rfl h2), w64_eq (by omega), e]
      rfl) (fun s => by
      simp only [rolodexref01_Value_L1]
      rw [if_f (by simp)]) FU () (by omega) (fu_lt (by omega))
  have e0 : ((0#64, (0 : Int)) : (BitVec 64) × Int) = (val (b.take 0), ((0 : Nat) : Int)) := by simp [val]
  rw [e0, bind_some' h1, List.take_length]
/-! ## The schedule -/
end Go.Sl.Pu
