import Derived.Test.YtbaecpklplkciaaDoorPlm
set_option linter.unusedSimpArgs false
set_option linter.unusedVariables false
namespace Go.Sl.Pu
open Go.Sl Go.Sl.M
/-! ## The writer and the reader of layer 1 -/
theorem be_go (x : BitVec 64) (k : Nat) (hk : k ≤ 8) (b : List (BitVec 8)) (hb : b.length ≤ 4000000000) :
    ∃ y, loopS (fun (s : Int × (List (BitVec 8))) => wire_Writer_number_L1 x s.1 s.2) FU ((k : Int) - 1, b) = some (y, b ++ be x k) := by
  have h := loopS_cnt (f := fun (s : Int × (List (BitVec 8))) => wire_Writer_number_L1 x s.1 s.2) (fun i (_ : Unit) => ((k : Int) - 1 - (i : Int), b ++ (be x k).take i)) (fun _ s => s) 0 k (fun i s h1 h2 => by
    simp only [wire_Writer_number_L1]
    have e1 : (k : Int) - 1 - (i : Int) = ((k - 1 - i : Nat) : Int) := by omega
    rw [e1, if_t (by simp), w64_id (n := 8 * ((k - 1 - i : Nat) : Int)) (by omega) (by omega), if_t (by omega), if_t (by simp [AP, be_len]; omega), w64_id (by omega) (by omega)]
    have e2 : (8 * ((k - 1 - i : Nat) : Int)).toNat = 8 * (k - 1 - i) := by omega
    have e3 : (be x k).take (i + 1) = (be x k).take i ++ [(x >>> (8 * (k - 1 - i))).setWidth 8] := by
      rw [List.take_succ_eq_append_getElem (by rw [be_len]; exact h2)]
      simp [be]
    have e5 : ((k - 1 - i : Nat) : Int) - 1 = (k : Int) - 1 - ((i + 1 : Nat) : Int) := by omega
    rw [e2, e3, ← List.append_assoc, e5]) (fun s => by
    simp only [wire_Writer_number_L1]
    rw [if_f (by simp; omega)]) FU () (by omega) (fu_lt (by omega))
  refine ⟨(k : Int) - 1 - (k : Int), ?_⟩
  have e : (be x k).take k = be x k := List.take_of_length_le (by rw [be_len]; exact Nat.le_refl _)
  simpa [e] using h
theorem wnumber_eq (b : List (BitVec 8)) (hb : b.length ≤ 4000000000) (x : BitVec 64) (k : Nat) (hk : k ≤ 8) : wire_Writer_number (b, false) x (k : Int) = some (b ++ be x k, false) := by
  unfold wire_Writer_number
  obtain ⟨y, hy⟩ := be_go x k hk b hb
  rw [Option.bind_some, if_f (by simp), w64_id (by omega) (by omega), bind_some' hy]
theorem be_setWidth {w : Nat} (x : BitVec w) (k : Nat) (hk : 8 * k ≤ w) (hw : w ≤ 64) : be (x.setWidth 64) k = be x k := by
  simp only [be]
  apply List.map_congr_left
  intro j hj
  apply BitVec.eq_of_getLsbD_eq
  intro i hi
  simp only [BitVec.getLsbD_setWidth, BitVec.getLsbD_ushiftRight, hi, decide_true, Bool.true_and]
  have := List.mem_range.1 hj
  have h64 : 8 * (k - 1 - j) + i < 64 := by omega
  simp [h64]
theorem wU32_eq (b : List (BitVec 8)) (hb : b.length ≤ 4000000000) (x : BitVec 32) : wire_Writer_U32 (b, false) x = some (b ++ be x 4, false) := by
  unfold wire_Writer_U32
  have h := wnumber_eq b hb (x.setWidth 64) 4 (by omega)
  have h' : wire_Writer_number (b, false) (x.setWidth 64) (4 : Int) = _ := h
  rw [bind_some' h', be_setWidth x 4 (by omega) (by omega)]
theorem wPlain_eq (b c : List (BitVec 8)) (h : b.length + c.length ≤ 4000000000) : wire_Writer_Plain (b, false) c = some (b ++ c, false) := by
  unfold wire_Writer_Plain
  rw [Option.bind_some, if_t (by simp), if_t (by simp [AP]; omega)]
theorem clone_eq (b : List (BitVec 8)) (h : b.length ≤ 4000000000) : slices_Clone_byte_byte b = some b := by
  unfold slices_Clone_byte_byte
  rw [if_t (by simp [AP]; omega)]; rfl
theorem wOut_eq (b : List (BitVec 8)) (h : b.length ≤ 4000000000) : wire_Writer_Out (b, false) = some ((b, false), b, 0) := by
  unfold wire_Writer_Out
  rw [if_f (by simp), bind_some' (clone_eq b h)]
theorem rNew_eq (b : List (BitVec 8)) (h : b.length ≤ 4000000000) : wire_New b = some (b, false) := by
  unfold wire_New
  rw [bind_some' (clone_eq b h), Option.bind_some]
theorem takes_eq (b : List (BitVec 8)) (n : Nat) (h : n ≤ b.length) : wire_Reader_takes (b, false) (n : Int) = some ((b.drop n, false), b.take n) := by
  unfold wire_Reader_takes
  rw [Option.bind_some, if_f (by simp), if_f (by simp), Option.bind_some, if_f (by simp; omega), bind_some' (lslice_at (lo := 0) (a := 0) (b := n) rfl rfl (by omega) h), bind_some' (lslice_at (lo := (n : Int)) (hi := (b.length : Int)) (a := n) (b := b.length) rfl rfl h (Nat.le_refl _))]
  simp
theorem takes_short (b : List (BitVec 8)) (n : Int) (h : n < 0 ∨ (b.length : Int) < n) : wire_Reader_takes (b, false) n = some ((b, true), []) := by
  unfold wire_Reader_takes
  rw [Option.bind_some, if_f (by simp)]
  by_cases hn : n < 0
  · rw [if_t (by simpa using hn), Option.bind_some, if_t rfl]
  · rw [if_f (by simpa using hn), Option.bind_some, if_t (by simp; omega)]
theorem takes_failed (b : List (BitVec 8)) (n : Int) : wire_Reader_takes (b, true) n = some ((b, true), []) := by
  unfold wire_Reader_takes
  rw [Option.bind_some, if_t rfl]
theorem peek_L1 (b : List (BitVec 8)) (hb : b.length ≤ 100) : loopS (fun (s : (BitVec 64) × Int) => wire_Reader_peek_L1 b s.1 s.2) FU (0#64, (0 : Int)) = some (val b, (b.length : Int)) := by
  have h := loopS_cnt (f := fun (s : (BitVec 64) × Int) => wire_Reader_peek_L1 b s.1 s.2) (fun i (_ : Unit) => (val (b.take i), (i : Int))) (fun _ s => s) 0 b.length (fun i s h1 h2 => by
    simp only [wire_Reader_peek_L1]
    rw [if_t (by simp; omega), bind_some' (lget_at rfl h2), w64_eq (n := (i : Int) + 1) (by omega)]
    have e : val (b.take (i + 1)) = (val (b.take i) <<< 8) ||| (b[i]).setWidth 64 := by
      rw [List.take_succ_eq_append_getElem h2]
      unfold val
      rw [List.foldl_append]
      simp only [List.foldl_cons, List.foldl_nil]
      generalize List.foldl (fun x c => x * 256#64 + BitVec.setWidth 64 c) 0#64 (List.take i b) = X
      generalize b[i] = c
      have hmul : X * 256#64 = X <<< 8 := by
        apply BitVec.eq_of_toNat_eq
        simp [BitVec.toNat_mul, BitVec.toNat_shiftLeft, Nat.shiftLeft_eq]
      rw [hmul]
      apply BitVec.eq_of_toNat_eq
      have hc := c.isLt
      rw [BitVec.toNat_add, BitVec.toNat_or, BitVec.toNat_shiftLeft, BitVec.toNat_setWidth]
      have h1 : c.toNat % 2 ^ 64 = c.toNat := Nat.mod_eq_of_lt (by omega)
      rw [h1]
      have h2 : (X.toNat <<< 8 % 2 ^ 64) = 2 ^ 8 * (X.toNat % 2 ^ 56) := by rw [Nat.shiftLeft_eq]; omega
      rw [h2, Nat.two_pow_add_eq_or_of_lt (by omega)]
      have hx : X.toNat % 2 ^ 56 < 2 ^ 56 := Nat.mod_lt _ (by decide)
      rw [← Nat.two_pow_add_eq_or_of_lt (by omega)]
      omega
    rw [e]; rfl) (fun s => by
    simp only [wire_Reader_peek_L1]
    rw [if_f (by simp)]) FU () (by omega) (fu_lt (by omega))
  simpa [val] using h
theorem peek_eq (b : List (BitVec 8)) (k : Nat) (hk : k ≤ 8) (h : k ≤ b.length) : wire_Reader_peek (b, false) (k : Int) = some (val (b.take k), true) := by
  unfold wire_Reader_peek
  rw [Option.bind_some, if_f (by simp), Option.bind_some, if_f (by simp; omega), bind_some' (lslice_at (lo := 0) (a := 0) (b := k) rfl rfl (by omega) h), List.drop_zero, bind_some' (peek_L1 (b.take k) (by simp; omega))]
theorem peek_short (b : List (BitVec 8)) (k : Int) (h : (b.length : Int) < k) : wire_Reader_peek (b, false) k = some (0#64, false) := by
  unfold wire_Reader_peek
  rw [Option.bind_some, if_f (by simp), Option.bind_some, if_t (by simp; omega)]
theorem rnumber_eq (b : List (BitVec 8)) (k : Nat) (hk : k ≤ 8) (h : k ≤ b.length) : wire_Reader_number (b, false) (k : Int) = some ((b.drop k, false), val (b.take k)) := by
  unfold wire_Reader_number
  rw [bind_some' (peek_eq b k hk h), bind_some' (takes_eq b k h), if_f (by simp)]
theorem rnumber_short (b : List (BitVec 8)) (k : Int) (h : (b.length : Int) < k) : wire_Reader_number (b, false) k = some ((b, true), 0#64) := by
  unfold wire_Reader_number
  rw [bind_some' (peek_short b k h), bind_some' (takes_short b k (.inr h)), if_t (by simp)]
theorem rU32_eq (b : List (BitVec 8)) (h : 4 ≤ b.length) : wire_Reader_U32 (b, false) = some ((b.drop 4, false), (val (b.take 4)).setWidth 32) := by
  unfold wire_Reader_U32
  have h' : wire_Reader_number (b, false) (4 : Int) = _ := rnumber_eq b 4 (by omega) h
  rw [bind_some' h']
theorem rU32_short (b : List (BitVec 8)) (h : b.length < 4) : wire_Reader_U32 (b, false) = some ((b, true), 0#32) := by
  unfold wire_Reader_U32
  rw [bind_some' (rnumber_short b 4 (by omega))]; rfl
theorem rPlain_eq (b : List (BitVec 8)) (n : Nat) (h : n ≤ b.length) : wire_Reader_Plain (b, false) (n : Int) = some ((b.drop n, false), b.take n) := by
  unfold wire_Reader_Plain
  rw [bind_some' (takes_eq b n h)]
theorem rPlain_short (b : List (BitVec 8)) (n : Int) (h : n < 0 ∨ (b.length : Int) < n) : wire_Reader_Plain (b, false) n = some ((b, true), []) := by
  unfold wire_Reader_Plain
  rw [bind_some' (takes_short b n h)]
theorem rPlain_failed (b : List (BitVec 8)) (n : Int) : wire_Reader_Plain (b, true) n = some ((b, true), []) := by
  unfold wire_Reader_Plain
  rw [bind_some' (takes_failed b n)]
/-! ## Numbers in bytes -/
theorem val_lt (b : List (BitVec 8)) (k : Nat) (hk : b.length ≤ k) (h8 : k ≤ 7) : (val b).toNat < 2 ^ (8 * k) := by
  have key : ∀ (b : List (BitVec 8)) (x : BitVec 64) (n : Nat), x.toNat < 2 ^ (8 * n) → n + b.length ≤ 7 → (b.foldl (fun x c => x * 256#64 + c.setWidth 64) x).toNat < 2 ^ (8 * (n + b.length)) := by
    intro b
    induction b with
    | nil => intro x n h _; simpa using h
    | cons c b ih =>
      intro x n h hn
      rw [List.foldl_cons, List.length_cons]
      simp only [List.length_cons] at hn
      have hx : (x * 256#64 + c.setWidth 64).toNat < 2 ^ (8 * (n + 1)) := by
        have hc := c.isLt
        have e : 2 ^ (8 * (n + 1)) = 256 * 2 ^ (8 * n) := by rw [Nat.mul_add, Nat.pow_add, Nat.mul_comm]
        have hp : 2 ^ (8 * (n + 1)) ≤ 2 ^ 56 := Nat.pow_le_pow_right (by decide) (by omega)
        have h56 : (2 : Nat) ^ 56 = 72057594037927936 := by decide
        rw [h56] at hp
        have h3 : (x * 256#64 + c.setWidth 64).toNat = x.toNat * 256 + c.toNat := by
          rw [BitVec.toNat_add, BitVec.toNat_mul, BitVec.toNat_setWidth]
          have h64 : (2 : Nat) ^ 64 = 18446744073709551616 := by decide
          rw [h64]
          have h2 : (256#64).toNat = 256 := rfl
          rw [h2]
          generalize 2 ^ (8 * n) = z at *
          generalize 2 ^ (8 * (n + 1)) = z2 at *
          omega
        rw [h3]
        generalize 2 ^ (8 * n) = z at *
        generalize 2 ^ (8 * (n + 1)) = z2 at *
        omega
      have := ih _ (n + 1) hx (by omega)
      rw [show n + (b.length + 1) = n + 1 + b.length by omega]
      exact this
  have := key b 0#64 0 (by simp) (by omega)
  rw [Nat.zero_add] at this
  exact Nat.lt_of_lt_of_le this (Nat.pow_le_pow_right (by decide) (by omega))
end Go.Sl.Pu
