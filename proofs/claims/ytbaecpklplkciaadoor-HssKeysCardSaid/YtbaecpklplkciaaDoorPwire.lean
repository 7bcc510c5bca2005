import Derived.Test.YtbaecpklplkciaaDoorPlm
set_option linter.unusedSimpArgs false
set_option linter.unusedVariables false
namespace Go.Sl.Pu
open Go.Sl Go.Sl.M
/-! ## The writer and the reader of layer 1 -/
theorem be_go (x : BitVec 64) (k : Nat) (hk : k ≤ 8) (b : List (BitVec 8)) (hb : b.length ≤ 4000000000) :
    ∃ y, loopS (fun (s : Int × (List (BitVec 8))) => wire_Writer_number_L1 x s.1 s.2) FU ((k : Int) - 1, b) = some (y, b ++ be x k) := by
  have h := loopS_cnt (f := fun (s : Int × (List (BitVec 8))) => wire_Writer_number_L1 x s.1 s.2) (fun i (_ : Unit) => ((k : Int) - 1 - (i : Int), b ++ (be x k).take i)) (fun _ s => s) 0 k (fun i s h1 h2 => by
    simp only [wire_Writer_number_L1]
    have e1 : (k : Int) - 1 - (i : Int) = ((k - 1 - i : Nat) : Int) := by omega
    rw [e1, if_t (by simp), w64_id (n := 8 * ((k - 1 - i : Nat) : Int)) (by omega) (by omega), if_t (by omega), if_t (by simp [AP, be_len]; omega), w64_id (by omega) (by omega)]
    have e2 : (8 * ((k - 1 - i : Nat) : Int)).toNat = 8 * (k - 1 - i) := by omega
    have e3 : (be x k).take (i + 1) = (be x k).take i ++ [(x >>> (8 * (k - 1 - i))).setWidth 8] := by
      rw [List.take_succ_eq_append_getElem (by rw [be_len]; exact h2)]
      simp [be]
    have e5 : ((k - 1 - i : Nat) : Int) - 1 = (k : Int) - 1 - ((i + 1 : Nat) : Int) := by omega
    rw [e2, e3, ← List.append_assoc, e5]) (fun s => by
    simp only [wire_Writer_number_L1]
    rw [if_f (by simp; omega)]) FU () (by omega) (fu_lt (by omega))
  refine ⟨(k : Int) - 1 - (k : Int), ?_⟩
  have e : (be x k).take k = be x k := List.take_of_length_le (by rw [be_len]; exact Nat.le_refl _)
  simpa [e] using h
theorem wnumber_eq (b : List (BitVec 8)) (hb : b.length ≤ 4000000000) (x : BitVec 64) (k : Nat) (hk : k ≤ 8) : wire_Writer_number (b, false) x (k : Int) = some (b ++ be x k, false) := by
  unfold wire_Writer_number
  obtain ⟨y, hy⟩ := be_go x k hk b hb
  rw [Option.bind_some, if_f (by simp), w64_id (by omega) (by omega), bind_some' hy]
theorem be_setWidth {w : Nat} (x : BitVec w) (k : Nat) (hk : 8 * k ≤ w) (hw : w ≤ 64) : be (x.setWidth 64) k = be x k := by
  simp only [be]
  apply List.map_congr_left
  intro j hj
  apply BitVec.eq_of_getLsbD_eq
  intro i hi
  simp only [BitVec.getLsbD_setWidth, BitVec.getLsbD_ushiftRight, hi, decide_true, Bool.true_and]
  have := List.mem_range.1 hj
  have h64 : 8 * (k - 1 - j) + i < 64 := by omega
  simp [h64]
theorem wU32_eq (b : List (BitVec 8)) (hb : b.length ≤ 4000000000) (x : BitVec 32) : wire_Writer_U32 (b, false) x = some (b ++ be x 4, false) := by
  unfold wire_Writer_U32
  have h := wnumber_eq b hb (x.setWidth 64) 4 (by omega)
  have h' : wire_Writer_number (b, false) (x.setWidth 64) (4 : Int) = _ := h
  rw [bind_some' h', be_setWidth x 4 (by omega) (by omega)]
theorem wPlain_eq (b c : List (BitVec 8)) (h : b.length + c.length ≤ 4000000000) : wire_Writer_Plain (b, false) c = some (b ++ c, false) := by
  unfold wire_Writer_Plain
  rw [Option.bind_some, if_t (by simp), if_t (by simp [AP]; omega)]
theorem clone_eq (b : List (BitVec 8)) (h : b.length ≤ 4000000000) : slices_Clone_byte_byte b = some b := by
  unfold slices_Clone_byte_byte
  rw [if_t (by simp [AP]; omega)]; rfl
theorem wOut_eq (b : List (BitVec 8)) (h : b.length ≤ 4000000000) : wire_Writer_Out (b, false) = some ((b, false), b, 0) := by
  unfold wire_Writer_Out
  rw [if_f (by simp), bind_some' (clone_eq b h)]
/-! ## Numbers in bytes -/
end Go.Sl.Pu
