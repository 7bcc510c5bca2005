import Derived.Test.YtodeiommhponnaaDoorPsha
set_option linter.unusedSimpArgs false
set_option linter.unusedVariables false
namespace Go.Sl.Pu
open Go.Sl Go.Sl.M
def rnd (w : Vector (BitVec 32) 64) (i : Nat) (v : Vector (BitVec 32) 8) : Vector (BitVec 32) 8 :=
  #v[((((v[7] + ((rr v[4] 6 ^^^ rr v[4] 11) ^^^ rr v[4] 25)) + (v[6] ^^^ (v[4] &&& (v[5] ^^^ v[6])))) + gv G_hash_rounds i) + gv w i) + (((rr v[0] 2 ^^^ rr v[0] 13) ^^^ rr v[0] 22) + ((v[0] &&& v[1]) ||| (v[2] &&& (v[0] ||| v[1])))),
    v[0], v[1], v[2], v[3] + ((((v[7] + ((rr v[4] 6 ^^^ rr v[4] 11) ^^^ rr v[4] 25)) + (v[6] ^^^ (v[4] &&& (v[5] ^^^ v[6])))) + gv G_hash_rounds i) + gv w i), v[4], v[5], v[6]]
theorem bl_step (w : Vector (BitVec 32) 64) (v : Vector (BitVec 32) 8) (i : Nat) (h2 : i < 64) : hash_state_block_L1 w (i : Int) v = some (.next (((i + 1 : Nat) : Int), rnd w i v)) := by
    unfold hash_state_block_L1
    rw [if_t (by simp; omega), w64_eq (n := (i : Int) + 1) (by omega)]
    rw [bind_some' (rot_eq (k := -6) (a := 26) (b := 6) (by decide) (by decide))]
    rw [bind_some' (rot_eq (k := -11) (a := 21) (b := 11) (by decide) (by decide))]
    rw [bind_some' (rot_eq (k := -25) (a := 7) (b := 25) (by decide) (by decide))]
    rw [bind_some' (vget_gv (n := 64) (i := (i : Int)) (k := i) rfl h2)]
    rw [bind_some' (vget_gv (n := 64) (i := (i : Int)) (k := i) rfl h2)]
    rw [Option.bind_some]
    rw [bind_some' (rot_eq (k := -2) (a := 30) (b := 2) (by decide) (by decide))]
    rw [bind_some' (rot_eq (k := -13) (a := 19) (b := 13) (by decide) (by decide))]
    rw [bind_some' (rot_eq (k := -22) (a := 10) (b := 22) (by decide) (by decide))]
    rw [Option.bind_some]
    rw [Option.bind_some]
    rfl
theorem bl_end (w : Vector (BitVec 32) 64) (v : Vector (BitVec 32) 8) : hash_state_block_L1 w ((64 : Nat) : Int) v = some (.brk (((64 : Nat) : Int), v)) := by
  unfold hash_state_block_L1
  exact if_neg (by simp)
theorem block_L1 (w : Vector (BitVec 32) 64) (v : T_hash_state) : loopS (fun (s : Int × T_hash_state) => hash_state_block_L1 w s.1 s.2) FU (0, v) = some (64, foldN (rnd w) 0 64 v) := by
  have h := loopS_cnt (f := fun (s : Int × T_hash_state) => hash_state_block_L1 w s.1 s.2) (fun i (v : T_hash_state) => ((i : Int), v)) (rnd w) 0 64 (fun i v h1 h2 => bl_step w v i h2) (fun v => bl_end w v) FU v (by omega) (fu_lt (by omega))
  rw [Nat.sub_zero] at h
  exact h
theorem ch_eq (a b c : BitVec 32) : a &&& b ||| ((4294967295#32) - a) &&& c = c ^^^ (a &&& (b ^^^ c)) := by
  have e : (4294967295#32) - a = ~~~a := by
    rw [show (4294967295#32) = BitVec.allOnes 32 by decide, BitVec.allOnes_sub_eq_not]
  rw [e]
  apply BitVec.eq_of_getLsbD_eq
  intro i hi
  simp only [BitVec.getLsbD_or, BitVec.getLsbD_and, BitVec.getLsbD_not, BitVec.getLsbD_xor, hi, decide_true, Bool.true_and]
  cases a.getLsbD i <;> cases b.getLsbD i <;> cases c.getLsbD i <;> rfl
theorem maj_eq (a b c : BitVec 32) : (a &&& b ||| a &&& c) ||| b &&& c = a &&& b ||| c &&& (a ||| b) := by
  apply BitVec.eq_of_getLsbD_eq
  intro i hi
  simp only [BitVec.getLsbD_or, BitVec.getLsbD_and]
  cases a.getLsbD i <;> cases b.getLsbD i <;> cases c.getLsbD i <;> rfl
theorem take_L1 (w : Vector (BitVec 32) 64) (v : Vector (BitVec 32) 8) : loopS (fun (s : Int × (Vector (BitVec 32) 8)) => rolodexref02_take_L1 G_hash_rounds w s.1 s.2) FU (0, v) = some (64, foldN (rnd w) 0 64 v) := by
  refine loopS_cnt (fun i v => ((i : Int), v)) (rnd w) 0 64 (fun i v h1 h2 => ?_) (fun v => ?_) FU v (by omega) (fu_lt (by omega))
  · simp only [rolodexref02_take_L1]
    rw [if_t (by simp; omega), w64_eq (n := (i : Int) + 1) (by omega)]
    simp only [turned_eq (n := 6#32) (a := 26) (b := 6) (by decide) (by decide), turned_eq (n := 11#32) (a := 21) (b := 11) (by decide) (by decide), turned_eq (n := 25#32) (a := 7) (b := 25) (by decide) (by decide),
      turned_eq (n := 2#32) (a := 30) (b := 2) (by decide) (by decide), turned_eq (n := 13#32) (a := 19) (b := 13) (by decide) (by decide), turned_eq (n := 22#32) (a := 10) (b := 22) (by decide) (by decide), Option.bind_some, vget_gv (n := 64) (i := (i : Int)) (k := i) rfl h2, ch_eq, maj_eq]
    rfl
  · simp only [rolodexref02_take_L1]
    rw [if_f (by simp)]
def ladd (a : Vector (BitVec 32) 8) (i : Nat) (v : Vector (BitVec 32) 8) : Vector (BitVec 32) 8 := v.setIfInBounds i (gv v i + gv a i)
theorem add_L2 (a v : Vector (BitVec 32) 8) : loopS (fun (s : Int × (Vector (BitVec 32) 8)) => rolodexref02_take_L2 a s.1 s.2) FU (0, v) = some (8, foldN (ladd a) 0 8 v) := by
  refine loopS_cnt (fun i v => ((i : Int), v)) (ladd a) 0 8 (fun i v h1 h2 => ?_) (fun v => ?_) FU v (by omega) (fu_lt (by omega))
  · simp only [rolodexref02_take_L2]
    rw [if_t (by simp; omega), w64_eq (n := (i : Int) + 1) (by omega)]
    simp only [Option.bind_some, vget_gv (n := 8) (i := (i : Int)) (k := i) rfl h2]
    rw [if_t ⟨by omega, by omega⟩]
    rfl
  · simp only [rolodexref02_take_L2]
    rw [if_f (by simp)]
theorem addp_L2 (a v : Vector (BitVec 32) 8) : loopS (fun (s : Int × T_hash_state) => hash_state_block_L2 a s.1 s.2) FU (0, v) = some (8, foldN (ladd a) 0 8 v) := add_L2 a v
def blk (s : Vector (BitVec 32) 8) (b : List (BitVec 8)) : Vector (BitVec 32) 8 := foldN (ladd (foldN (rnd (sched b)) 0 64 s)) 0 8 s
theorem block_eq (s : Vector (BitVec 32) 8) (b : List (BitVec 8)) (hb : 64 ≤ b.length) : hash_state_block s b = some (blk s b) := by
  unfold hash_state_block
  rw [bind_some' (schedule_eq b hb)]
  simp only [block_L1, addp_L2, Option.bind_some]
  rfl
theorem take_eq (s : Vector (BitVec 32) 8) (b : List (BitVec 8)) (hb : 64 ≤ b.length) : rolodexref02_take s b = some (blk s b) := by
  unfold rolodexref02_take
  rw [bind_some' (words_eq b hb), bind_some' (show rolodexref02_K = some G_hash_rounds from rfl)]
  simp only [take_L1, add_L2, Option.bind_some]
  rfl
/-- A block is told by its first 64 bytes. -/
theorem blk_congr (s : Vector (BitVec 32) 8) {b b' : List (BitVec 8)} (h : ∀ i, i < 64 → gl b i = gl b' i) : blk s b = blk s b' := by
  have : sched b = sched b' := by
    unfold sched
    rw [foldN_congr (f := pw b) (g := pw b') 16 0 _ fun j _ hj v => ?_]
    unfold pw wd
    rw [h (4 * j) (by omega), h (4 * j + 1) (by omega), h (4 * j + 2) (by omega), h (4 * j + 3) (by omega)]
  unfold blk
  rw [this]
def outv (h : Vector (BitVec 32) 8) : Vector (BitVec 8) 32 := foldN (fun i (o : Vector (BitVec 8) 32) => o.setIfInBounds i ((gv h (i / 4) >>> (24 - 8 * (i % 4))).setWidth 8)) 0 32 (Vector.replicate 32 (0#8))
theorem out_L3 (h : Vector (BitVec 32) 8) : loopS (fun (s : Int × T_api_Hash) => hash_Sum_L3 h s.1 s.2) FU (0, Vector.replicate 32 (0#8)) = some (32, outv h) := by
  refine loopS_cnt (fun i v => ((i : Int), v)) (fun i (o : Vector (BitVec 8) 32) => o.setIfInBounds i ((gv h (i / 4) >>> (24 - 8 * (i % 4))).setWidth 8)) 0 32 (fun i v h1 h2 => ?_) (fun v => ?_) FU _ (by omega) (fu_lt (by omega))
  · simp only [hash_Sum_L3]
    have hd : w64 (Int.tdiv (i : Int) 4) = ((i / 4 : Nat) : Int) := by
      rw [show (4 : Int) = ((4 : Nat) : Int) from rfl, ← Int.ofNat_tdiv]; exact w64_nat (by omega)
    have hm : Int.tmod (i : Int) 4 = ((i % 4 : Nat) : Int) := by
      rw [show (4 : Int) = ((4 : Nat) : Int) from rfl, ← Int.ofNat_tmod]
    rw [if_t (by simp; omega), hd, bind_some' (vget_gv rfl (by omega)), hm, w64_eq (n := 8 * ((i % 4 : Nat) : Int)) (by omega), w64_eq (n := 24 - 8 * ((i % 4 : Nat) : Int)) (by omega), if_t (by omega), if_t ⟨by omega, by omega⟩, w64_eq (n := (i : Int) + 1) (by omega)]
    have : (24 - 8 * ((i % 4 : Nat) : Int)).toNat = 24 - 8 * (i % 4) := by omega
    rw [this]
    rfl
  · simp only [hash_Sum_L3]
    rw [if_f (by simp)]
theorem outr_L2 (h : Vector (BitVec 32) 8) : loopS (fun (s : Int × T_api_Hash) => rolodexref02_Sum_L2 h s.1 s.2) FU (0, Vector.replicate 32 (0#8)) = some (32, outv h) := by
  refine loopS_cnt (fun i v => ((i : Int), v)) (fun i (o : Vector (BitVec 8) 32) => o.setIfInBounds i ((gv h (i / 4) >>> (24 - 8 * (i % 4))).setWidth 8)) 0 32 (fun i v h1 h2 => ?_) (fun v => ?_) FU _ (by omega) (fu_lt (by omega))
  · simp only [rolodexref02_Sum_L2]
    have hd : w64 (Int.tdiv (i : Int) 4) = ((i / 4 : Nat) : Int) := by
      rw [show (4 : Int) = ((4 : Nat) : Int) from rfl, ← Int.ofNat_tdiv]; exact w64_nat (by omega)
    have hm : Int.tmod (i : Int) 4 = ((i % 4 : Nat) : Int) := by
      rw [show (4 : Int) = ((4 : Nat) : Int) from rfl, ← Int.ofNat_tmod]
    rw [if_t (by simp; omega), hd, bind_some' (vget_gv rfl (by omega)), hm, if_t ⟨by omega, by omega⟩, w64_eq (n := (i : Int) + 1) (by omega)]
    have h4 : i % 4 = 0 ∨ i % 4 = 1 ∨ i % 4 = 2 ∨ i % 4 = 3 := by omega
    have : (24#32 - 8#32 * BitVec.ofInt 32 ((i % 4 : Nat) : Int)).toNat = 24 - 8 * (i % 4) := by
      rcases h4 with h | h | h | h <;> rw [h] <;> decide
    rw [this]
    rfl
  · simp only [rolodexref02_Sum_L2]
    rw [if_f (by simp)]
/-! ## The padded text -/
def zs (n : Nat) : Nat := if n % 64 < 56 then 55 - n % 64 else 119 - n % 64
def pad (b : List (BitVec 8)) : List (BitVec 8) := b ++ ([128#8] ++ (List.replicate (zs b.length) (0#8) ++ be ((BitVec.ofNat 64 b.length) <<< 3) 8))
theorem pad_len (b : List (BitVec 8)) : (pad b).length = b.length + zs b.length + 9 := by
  simp [pad, be_len]; omega
theorem padded_eq (b : List (BitVec 8)) (hb : b.length ≤ 4000000000) : rolodexref02_Padded b = some (pad b) := by
  unfold rolodexref02_Padded
  rw [if_t (by simp [AP]; omega), if_t (by simp [AP]; omega), List.nil_append]
  have hz : zs b.length ≤ 63 := by unfold zs; split <;> omega
  have h1 := loopS_cnt (f := fun (s : List (BitVec 8)) => rolodexref02_Padded_L1 s) (fun i (_ : Unit) => (b ++ [128#8]) ++ List.replicate i (0#8)) (fun _ s => s) 0 (zs b.length) (fun i s h1 h2 => by
      simp only [rolodexref02_Padded_L1]
      have hl : (((b ++ [128#8]) ++ List.replicate i (0#8)).length : Int) = ((b.length + 1 + i : Nat) : Int) := by simp; omega
      have hm : Int.tmod ((b.length + 1 + i : Nat) : Int) 64 = (((b.length + 1 + i) % 64 : Nat) : Int) := by
        rw [show (64 : Int) = ((64 : Nat) : Int) from rfl, ← Int.ofNat_tmod]
      rw [hl, hm, if_t (by
        simp only [Bool.not_eq_true', decide_eq_false_iff_not]
        unfold zs at h2; split at h2 <;> omega), if_t (by simp [AP]; omega)]
      rw [List.append_assoc, ← List.replicate_succ']) (fun s => by
      simp only [rolodexref02_Padded_L1]
      have hl : (((b ++ [128#8]) ++ List.replicate (zs b.length) (0#8)).length : Int) = ((b.length + 1 + zs b.length : Nat) : Int) := by simp; omega
      have hm : Int.tmod ((b.length + 1 + zs b.length : Nat) : Int) 64 = (((b.length + 1 + zs b.length) % 64 : Nat) : Int) := by
        rw [show (64 : Int) = ((64 : Nat) : Int) from rfl, ← Int.ofNat_tmod]
      rw [hl, hm, if_f (by
        simp only [Bool.not_eq_true', decide_eq_false_iff_not, Decidable.not_not]
        unfold zs; split <;> omega)]) FU () (by omega) (fu_lt (by omega))
  have e0 : (b ++ [128#8]) = (b ++ [128#8]) ++ List.replicate 0 (0#8) := by simp
  rw [e0]
  rw [bind_some' h1]
  have e8 : (8#64) * (BitVec.ofInt 64 (b.length : Int)) = (BitVec.ofNat 64 b.length) <<< 3 := by
    apply BitVec.eq_of_toNat_eq
    simp [BitVec.toNat_mul, BitVec.toNat_shiftLeft, Nat.shiftLeft_eq]
    omega
  rw [e8]
  rw [bind_some' (show rolodexref01_Number _ 8 = some _ from number_eq _ 8 (by omega)), if_t (by simp [AP, be_len]; omega)]
  simp [pad]
def shaK (p : List (BitVec 8)) (k : Nat) : Vector (BitVec 32) 8 := foldN (fun i s => blk s (p.drop (64 * i))) 0 k G_hash_begin
/-- The hash. -/
def sha (b : List (BitVec 8)) : Vector (BitVec 8) 32 := outv (shaK (pad b) ((pad b).length / 64))
theorem gl_take (b : List (BitVec 8)) {i k : Nat} (h : i < k) : gl (b.take k) i = gl b i := by
  simp only [gl, List.getD_eq_getElem?_getD, List.getElem?_take, if_pos h]
theorem gl_drop (b : List (BitVec 8)) (i k : Nat) : gl (b.drop k) i = gl b (k + i) := by
  simp only [gl, List.getD_eq_getElem?_getD, List.getElem?_drop]
theorem sumr_eq (b : List (BitVec 8)) (hb : b.length ≤ 4000000000) : rolodexref02_Sum b = some (sha b) := by
  unfold rolodexref02_Sum
  rw [bind_some' (show rolodexref02_Start = some G_hash_begin from rfl), bind_some' (padded_eq b hb)]
  have hlen := pad_len b
  have hdiv : 64 * ((pad b).length / 64) = (pad b).length := by
    rw [hlen]; unfold zs; split <;> omega
  have hle : (pad b).length ≤ 4000000200 := by rw [hlen]; unfold zs; split <;> omega
  have h1 := loopS_cnt (f := fun (s : Int × (Vector (BitVec 32) 8)) => rolodexref02_Sum_L1 (pad b) s.1 s.2) (fun i v => ((64 * i : Nat), v)) (fun i s => blk s ((pad b).drop (64 * i))) 0 ((pad b).length / 64) (fun i v h1 h2 => by
      simp only [rolodexref02_Sum_L1]
      have hi : 64 * i + 64 ≤ (pad b).length := by omega
      rw [if_t (by simp; omega), w64_eq (n := ((64 * i : Nat) : Int) + 64) (by omega)]
      rw [bind_some' (lslice_at (a := 64 * i) (b := 64 * i + 64) rfl (by omega) (by omega) hi), bind_some' (take_eq _ _ (by simp; omega))]
      have : (((64 * i : Nat) : Int) + 64) = ((64 * (i + 1) : Nat) : Int) := by omega
      rw [this]
      have hc : blk v (((pad b).take (64 * i + 64)).drop (64 * i)) = blk v ((pad b).drop (64 * i)) := by
        refine blk_congr v fun j hj => ?_
        rw [gl_drop, gl_drop, gl_take _ (by omega)]
      rw [hc]) (fun v => by
      simp only [rolodexref02_Sum_L1]
      rw [if_f (by simp; omega)]) FU G_hash_begin (by omega) (fu_lt (by omega))
  have e0 : ((0 : Int), G_hash_begin) = (((64 * 0 : Nat) : Int), G_hash_begin) := rfl
  rw [e0, bind_some' h1]
  simp only [outr_L2, Option.bind_some]
  rfl
end Go.Sl.Pu
