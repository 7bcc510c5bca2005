import Derived.Test.YtbaecpklplkciaaDoorPlm2
set_option linter.unusedSimpArgs false
set_option linter.unusedVariables false
namespace Go.Sl.Pu
open Go.Sl Go.Sl.M
/-! ## Signatures -/
def sdig (k : Nat) (id : T_api_ID) (q : BitVec 32) (salt msg : List (BitVec 8)) : List Int := digl k (und id q 33153 (salt ++ msg))
def dgt (l : List Int) (i : Nat) : Nat := (l.getD i 0).toNat
theorem dgt_le {k : Nat} (hk : IsKind k) (h : T_api_Hash) (i : Nat) : dgt (digl k h) i ≤ mostN k := by
  unfold dgt
  by_cases hi : i < (digl k h).length
  · have e : (digl k h).getD i 0 = (digl k h)[i] := by simp [hi]
    rw [e]
    obtain ⟨n, hn, hle⟩ := digl_le hk (List.getElem_mem hi)
    rw [hn]; simpa using hle
  · have e : (digl k h).getD i 0 = 0 := by simp [Nat.not_lt.1 hi]
    rw [e]; simp
theorem dgt_at {k : Nat} (hk : IsKind k) (h : T_api_Hash) (i : Nat) (hi : i < chainsN k) : lget (digl k h) (i : Int) = some ((dgt (digl k h) i : Nat) : Int) := by
  have hi' : i < (digl k h).length := by rw [digl_len hk]; exact hi
  rw [lget_at rfl hi']
  unfold dgt
  have e : (digl k h).getD i 0 = (digl k h)[i] := by simp [hi']
  rw [e]
  obtain ⟨n, hn, hle⟩ := digl_le hk (List.getElem_mem hi')
  rw [hn]; simp
def saltv (id : T_api_ID) (q : BitVec 32) (seed : T_api_Hash) : T_api_Hash := begn id q 65533 seed
def sigk (k : Nat) (id : T_api_ID) (q : BitVec 32) (seed : T_api_Hash) (msg : List (BitVec 8)) : List (BitVec 8) :=
  (be (BitVec.ofNat 32 k) 4 ++ (saltv id q seed).toList) ++ cat (chainsN k) fun i => steps id q i 0 (dgt (sdig k id q (saltv id q seed).toList msg) i) (begn id q i seed)
theorem be64_4 (n : Nat) : be (BitVec.ofNat 64 n) 4 = be (BitVec.ofNat 32 n) 4 := by
  simp only [be]
  apply List.map_congr_left
  intro j hj
  have hj := List.mem_range.1 hj
  apply BitVec.eq_of_toNat_eq
  simp only [BitVec.toNat_setWidth, BitVec.toNat_ushiftRight, BitVec.toNat_ofNat, Nat.shiftRight_eq_div_pow]
  have : j = 0 ∨ j = 1 ∨ j = 2 ∨ j = 3 := by omega
  rcases this with rfl | rfl | rfl | rfl <;> simp <;> omega
theorem rNum4 (n : Nat) : rolodexref01_Number (BitVec.ofInt 64 (n : Int)) (4 : Int) = some (be (BitVec.ofNat 32 n) 4) := by
  rw [ofInt64, ← be64_4]; exact number_eq _ 4 (by omega)
theorem rHashed_eq (id : T_api_ID) (q : BitVec 32) (salt msg : List (BitVec 8)) (h : salt.length + msg.length ≤ 3000000000) : rolodexref04_Hashed id q salt msg = some (und id q 33153 (salt ++ msg)) := by
  unfold rolodexref04_Hashed
  have hu : rolodexref04_Under id q (33153 : Int) (salt ++ msg) = _ := rUnder_eq id q 33153 (salt ++ msg) (by simp; omega)
  rw [if_t (by simp [AP]; omega), if_t (by simp [AP]; omega), List.nil_append, bind_some' hu]
/-! ## Recovering -/
/-- The 32 bytes at a place. -/
def hat (b : List (BitVec 8)) (off : Nat) : T_api_Hash := Vector.ofFn fun j : Fin 32 => b.getD (off + j.val) 0#8
theorem hat_toList (b : List (BitVec 8)) (off : Nat) (h : off + 32 ≤ b.length) : (hat b off).toList = (b.drop off).take 32 := by
  apply List.ext_getElem?
  intro i
  rw [List.getElem?_take]
  by_cases hi : i < 32
  · rw [if_pos hi, List.getElem?_drop]
    have h2 : off + i < b.length := by omega
    have : (hat b off).toList[i]? = some (b.getD (off + i) 0#8) := by
      unfold hat
      rw [List.getElem?_eq_getElem (by simp; exact hi)]
      simp
    rw [this]; simp [h2]
  · rw [if_neg hi, List.getElem?_eq_none (by simp; omega)]
theorem hat_eq (b : List (BitVec 8)) (off : Nat) (h : off + 32 ≤ b.length) : toVecO 32 ((b.drop off).take 32) = some (hat b off) := by
  have hl : 32 ≤ ((b.drop off).take 32).length := by simp; omega
  unfold toVecO
  rw [dif_pos hl]
  refine congrArg some (Vector.toList_inj.1 ?_)
  rw [toVec_toList, hat_toList b off h, List.take_take, Nat.min_self]
def recov (k : Nat) (id : T_api_ID) (q : BitVec 32) (msg sig : List (BitVec 8)) : T_api_Hash :=
  und id q 32896 (cat (chainsN k) fun i => steps id q i (dgt (sdig k id q ((sig.drop 4).take 32) msg) i) (mostN k - dgt (sdig k id q ((sig.drop 4).take 32) msg) i) (hat sig (36 + 32 * i)))
/-- Of which kind a signature is. -/
def IsSig (k : Nat) (sig : List (BitVec 8)) : Prop := IsKind k ∧ sig.length = sizeN k ∧ (val (sig.take 4)).toNat = k
theorem val_w32 (b : List (BitVec 8)) : (((val (b.take 4)).setWidth 32).toNat : Int) = ((val (b.take 4)).toNat : Int) := by
  have := val_lt (b.take 4) 4 (by simp; omega) (by omega)
  have h32 : (2 : Nat) ^ (8 * 4) = 4294967296 := by decide
  rw [h32] at this
  rw [BitVec.toNat_setWidth, Nat.mod_eq_of_lt (by omega)]
theorem recover_eq {k : Nat} (id : T_api_ID) (q : BitVec 32) (msg sig : List (BitVec 8)) (hm : msg.length ≤ 2000000000) (hs : IsSig k sig) : lmots_Recover id q msg sig = some (recov k id q msg sig, true) := by
  obtain ⟨hk, hl, hv⟩ := hs
  have hc := chainsN_le hk
  have hmo := mostN_le hk
  have hsz : sig.length = 36 + 32 * chainsN k := hl
  unfold lmots_Recover
  rw [bind_some' (rNew_eq sig (by omega)), bind_some' (rU32_eq sig (by omega))]
  simp only [val_w32, hv]
  rw [bind_some' (of_eq hk), if_f (by simp), bind_some' (size_eq hk), Option.bind_some, if_f (by simp [hl])]
  have hp : wire_Reader_Plain (sig.drop 4, false) (32 : Int) = _ := rPlain_eq (sig.drop 4) 32 (by simp; omega)
  rw [bind_some' hp]
  simp only [List.drop_drop]
  rw [if_t (show 0 ≤ (chainsN k : Int) ∧ (chainsN k : Int) ≤ 4294967296 by omega), Int.toNat_natCast, Option.bind_some]
  have hu : lmots_under id q (33153 : Int) [(sig.drop 4).take 32, msg] = some (und id q 33153 ((sig.drop 4).take 32 ++ msg)) := by
    have := under_eq id q 33153 [(sig.drop 4).take 32, msg] (by simp [tot]; omega) (by simp)
    simpa using this
  rw [bind_some' hu, bind_some' (fdigits_eq hk _)]
  have hdl := digl_len hk (und id q 33153 ((sig.drop 4).take 32 ++ msg))
  let g : Nat → T_api_Hash := fun i => steps id q i (dgt (sdig k id q ((sig.drop 4).take 32) msg) i) (mostN k - dgt (sdig k id q ((sig.drop 4).take 32) msg) i) (hat sig (36 + 32 * i))
  have hmost : lmots_form_most (frm k) = some (mostN k : Int) := most_eq hk
  have h := loopS_cnt (f := fun (s : Int × (List T_api_Hash) × (List (BitVec 8)) × Bool) => lmots_Recover_L1 (digl k (und id q 33153 ((sig.drop 4).take 32 ++ msg))) (frm k, true) id q s.1 s.2.1 s.2.2.1 s.2.2.2) (fun j (_ : Unit) => ((j : Int), (List.range j).map g ++ List.replicate (chainsN k - j) (Vector.replicate 32 (0#8)), sig.drop (36 + 32 * j), false)) (fun _ s => s) 0 (chainsN k) (fun j s h1 h2 => by
    simp only [lmots_Recover_L1, hdl]
    have hd := dgt_le hk (und id q 33153 ((sig.drop 4).take 32 ++ msg)) j
    have hch := chain_eq id q j (hat sig (36 + 32 * j)) (dgt (digl k (und id q 33153 ((sig.drop 4).take 32 ++ msg))) j) (mostN k) (by omega) (by omega)
    have hp2 : wire_Reader_Plain (sig.drop (36 + 32 * j), false) (32 : Int) = _ := rPlain_eq (sig.drop (36 + 32 * j)) 32 (by simp; omega)
    rw [if_t (by simp; omega), bind_some' (dgt_at hk _ j h2), bind_some' hp2]
    simp only []
    rw [bind_some' (hat_eq sig (36 + 32 * j) (by omega)), bind_some' hmost, bind_some' hch, if_t (by simp; omega), w64_eq (n := (j : Int) + 1) (by omega), Int.toNat_natCast, set_fill (chainsN k) j g (Vector.replicate 32 (0#8)) (steps id q j (dgt (digl k (und id q 33153 ((sig.drop 4).take 32 ++ msg))) j) (mostN k - dgt (digl k (und id q 33153 ((sig.drop 4).take 32 ++ msg))) j) (hat sig (36 + 32 * j))) h2 rfl, List.drop_drop]
    rfl) (fun s => by
    simp only [lmots_Recover_L1, hdl]
    rw [if_f (by simp)]) FU () (by omega) (fu_lt (by omega))
  have h' : loopS (fun (s : Int × (List T_api_Hash) × (List (BitVec 8)) × Bool) => lmots_Recover_L1 (digl k (und id q 33153 ((sig.drop 4).take 32 ++ msg))) (frm k, true) id q s.1 s.2.1 s.2.2.1 s.2.2.2) FU ((0 : Int), List.replicate (chainsN k) (Vector.replicate 32 (0#8)), sig.drop (4 + 32), false) = some ((chainsN k : Int), (List.range (chainsN k)).map g, sig.drop (36 + 32 * chainsN k), false) := by simpa using h
  rw [bind_some' h', bind_some' (folded_eq id q _ g (by omega))]
  rfl
theorem rvalue4 (b : List (BitVec 8)) (h : b.length ≤ 4294967296) : rolodexref01_Value b = some (val b) := value_eq b h
theorem w64_val (b : List (BitVec 8)) : w64 ((val (b.take 4)).toNat : Int) = ((val (b.take 4)).toNat : Int) := by
  have := val_lt (b.take 4) 4 (by simp; omega) (by omega)
  have h32 : (2 : Nat) ^ (8 * 4) = 4294967296 := by decide
  rw [h32] at this
  exact w64_nat (by omega)
theorem rrecover_eq {k : Nat} (id : T_api_ID) (q : BitVec 32) (msg sig : List (BitVec 8)) (hm : msg.length ≤ 2000000000) (hs : IsSig k sig) : rolodexref04_Recover id q msg sig = some (recov k id q msg sig, true) := by
  obtain ⟨hk, hl, hv⟩ := hs
  have hc := chainsN_le hk
  have hmo := mostN_le hk
  have hsz : sig.length = 36 + 32 * chainsN k := hl
  have hk4 : 1 ≤ k ∧ k ≤ 4 := by rcases hk with rfl | rfl | rfl | rfl <;> omega
  unfold rolodexref04_Recover
  rw [if_f (by simp; omega), bind_some' (lslice_at (lo := 0) (hi := 4) (a := 0) (b := 4) rfl rfl (by omega) (by omega)), List.drop_zero, bind_some' (rvalue4 _ (by simp; omega))]
  have e1 : ¬ (decide (val (sig.take 4) < 1#64) = true) := by
    simp only [decide_eq_true_eq, BitVec.lt_def, hv]; show ¬ k < 1; omega
  have e2 : ¬ (decide (4#64 < val (sig.take 4)) = true) := by
    simp only [decide_eq_true_eq, BitVec.lt_def, hv]; show ¬ 4 < k; omega
  rw [if_f e1, Option.bind_some, if_f e2, w64_val, hv, bind_some' (rsize_eq hk), Option.bind_some, if_f (by simp [hl])]
  rw [bind_some' (lslice_at (lo := 4) (hi := 36) (a := 4) (b := 36) rfl rfl (by omega) (by omega))]
  have e3 : (sig.take 36).drop 4 = (sig.drop 4).take 32 := by rw [List.drop_take]
  rw [e3, bind_some' (rHashed_eq id q _ msg (by simp; omega)), bind_some' (rdigits_eq hk _)]
  have hdl := digl_len hk (und id q 33153 ((sig.drop 4).take 32 ++ msg))
  let g : Nat → T_api_Hash := fun i => steps id q i (dgt (sdig k id q ((sig.drop 4).take 32) msg) i) (mostN k - dgt (sdig k id q ((sig.drop 4).take 32) msg) i) (hat sig (36 + 32 * i))
  have hmost : rolodexref04_Most (k : Int) = some (mostN k : Int) := rmost_eq hk
  have h := loopS_cnt (f := fun (s : Int × (List (BitVec 8))) => rolodexref04_Recover_L1 (digl k (und id q 33153 ((sig.drop 4).take 32 ++ msg))) sig (val (sig.take 4)) id q s.1 s.2) (fun j (_ : Unit) => ((j : Int), cat j g)) (fun _ s => s) 0 (chainsN k) (fun j s h1 h2 => by
    simp only [rolodexref04_Recover_L1, hdl]
    have hd := dgt_le hk (und id q 33153 ((sig.drop 4).take 32 ++ msg)) j
    have hch := rSteps_eq id q j (hat sig (36 + 32 * j)) (dgt (digl k (und id q 33153 ((sig.drop 4).take 32 ++ msg))) j) (mostN k) (by omega) (by omega)
    rw [if_t (by simp; omega), w64_id (n := 32 * (j : Int)) (by omega) (by omega), w64_id (n := 36 + 32 * (j : Int)) (by omega) (by omega), w64_id (n := 68 + 32 * (j : Int)) (by omega) (by omega)]
    rw [bind_some' (lslice_at (lo := 36 + 32 * (j : Int)) (hi := 68 + 32 * (j : Int)) (a := 36 + 32 * j) (b := 68 + 32 * j) (by omega) (by omega) (by omega) (by omega))]
    have e4 : (sig.take (68 + 32 * j)).drop (36 + 32 * j) = (sig.drop (36 + 32 * j)).take 32 := by
      rw [List.drop_take]; congr 1; omega
    rw [e4, bind_some' (hat_eq sig (36 + 32 * j) (by omega)), bind_some' (dgt_at hk _ j h2), w64_val, hv, bind_some' hmost, bind_some' hch, if_t (by simp [AP, cat_len]; omega), w64_eq (n := (j : Int) + 1) (by omega), cat_succ]
    rfl) (fun s => by
    simp only [rolodexref04_Recover_L1, hdl]
    rw [if_f (by simp)]) FU () (by omega) (fu_lt (by omega))
  have h' : loopS (fun (s : Int × (List (BitVec 8))) => rolodexref04_Recover_L1 (digl k (und id q 33153 ((sig.drop 4).take 32 ++ msg))) sig (val (sig.take 4)) id q s.1 s.2) FU ((0 : Int), []) = some ((chainsN k : Int), cat (chainsN k) g) := h
  have hu : rolodexref04_Under id q (32896 : Int) (cat (chainsN k) g) = _ := rUnder_eq id q 32896 _ (by rw [cat_len]; omega)
  rw [bind_some' h', bind_some' hu]
  rfl
end Go.Sl.Pu
