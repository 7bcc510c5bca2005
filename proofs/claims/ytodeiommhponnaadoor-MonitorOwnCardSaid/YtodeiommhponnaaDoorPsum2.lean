import Derived.Test.YtodeiommhponnaaDoorPsum
set_option linter.unusedSimpArgs false
set_option linter.unusedVariables false
namespace Go.Sl.Pu
open Go.Sl Go.Sl.M
theorem gl_append (a b : List (BitVec 8)) (i : Nat) : gl (a ++ b) i = if i < a.length then gl a i else gl b (i - a.length) := by
  simp only [gl, List.getD_eq_getElem?_getD]
  split
  · rename_i h; rw [List.getElem?_append_left h]
  · rename_i h; rw [List.getElem?_append_right (by omega)]
theorem gl_zeros (n i : Nat) : gl (List.replicate n (0#8)) i = 0 := by
  simp only [gl, List.getD_eq_getElem?_getD, List.getElem?_replicate]
  split <;> rfl
theorem gl_be {w : Nat} (x : BitVec w) (k i : Nat) (h : i < k) : gl (be x k) i = (x >>> (8 * (k - 1 - i))).setWidth 8 := by
  simp [gl, be, h]
theorem gl_ge (b : List (BitVec 8)) (i : Nat) (h : b.length ≤ i) : gl b i = 0 := by
  simp [gl, List.getElem?_eq_none h]
theorem gl_vec {n : Nat} (v : Vector (BitVec 8) n) (j : Nat) : gl v.toList j = gv v j := by
  simp only [gl, gv, List.getD_eq_getElem?_getD]
  by_cases h : j < n
  · simp [h]
  · rw [List.getElem?_eq_none (by simpa using h), Vector.getElem?_eq_none (by omega)]
theorem gv_vput {n : Nat} (l : List (BitVec 8)) (h : l.length ≤ n) (j : Nat) : gv (vput (Vector.replicate n (0#8)) 0 l) j = gl l j := by
  rw [← gl_vec, vput_toList _ _ _ (by omega)]
  simp only [List.take_zero, List.nil_append]
  rw [gl_append]
  split
  · rfl
  · rename_i hj
    rw [gl_drop, gl_vec, gl_ge l j (by omega)]
    unfold gv
    by_cases h2 : 0 + l.length + (j - l.length) < n
    · rw [Vector.getElem?_eq_getElem h2]; simp
    · rw [Vector.getElem?_eq_none (by omega)]; rfl
def tset (S : Nat) (x : BitVec 64) (i : Nat) (v : Vector (BitVec 8) 128) : Vector (BitVec 8) 128 := v.setIfInBounds (S - 1 - i) ((x >>> (8 * i)).setWidth 8)
theorem gv_tset (S : Nat) (x : BitVec 64) (hS : S ≤ 128) (v : Vector (BitVec 8) 128) : ∀ (k : Nat), k ≤ S → ∀ j, gv (foldN (tset S x) 0 k v) j = if S - k ≤ j ∧ j < S then (x >>> (8 * (S - 1 - j))).setWidth 8 else gv v j
  | 0, _, j => by rw [if_neg (by omega)]; rfl
  | k + 1, hk, j => by
    rw [foldN_succ, Nat.zero_add]
    unfold tset
    by_cases hj : S - 1 - k = j
    · subst hj
      rw [gv_set_self (by omega), if_pos ⟨by omega, by omega⟩]
      congr 2; omega
    · rw [gv_set_ne hj]
      have ih := gv_tset S x hS v k (by omega) j
      unfold tset at ih
      rw [ih]
      by_cases h2 : S - k ≤ j ∧ j < S
      · rw [if_pos h2, if_pos ⟨by omega, h2.2⟩]
      · rw [if_neg h2, if_neg (by omega)]
theorem sum_L1 (b : List (BitVec 8)) (hb : b.length ≤ 4000000000) : loopS (fun (s : (List (BitVec 8)) × T_hash_state) => hash_Sum_L1 s.1 s.2) FU (b, G_hash_begin) = some (b.drop (64 * (b.length / 64)), foldN (fun i s => blk s (b.drop (64 * i))) 0 (b.length / 64) G_hash_begin) := by
  have h := loopS_cnt (f := fun (s : (List (BitVec 8)) × T_hash_state) => hash_Sum_L1 s.1 s.2) (fun i (v : T_hash_state) => (b.drop (64 * i), v)) (fun i s => blk s (b.drop (64 * i))) 0 (b.length / 64) (fun i v h1 h2 => by
    simp only [hash_Sum_L1]
    have hl : (b.drop (64 * i)).length = b.length - 64 * i := by simp
    rw [if_t (by rw [hl]; simp; omega), bind_some' (block_eq _ _ (by rw [hl]; omega)), bind_some' (lslice_at (lo := 64) (a := 64) (b := (b.drop (64 * i)).length) rfl rfl (by rw [hl]; omega) (Nat.le_refl _)), List.take_length, List.drop_drop]
    rw [show 64 * i + 64 = 64 * (i + 1) by omega]) (fun v => by
    simp only [hash_Sum_L1]
    rw [if_f (by simp; omega)]) FU G_hash_begin (by omega) (fu_lt (by omega))
  exact h
theorem sum_L2 (S : Nat) (b : List (BitVec 8)) (hS : S = 64 ∨ S = 128) (v : Vector (BitVec 8) 128) : loopS (fun (s : Int × (Vector (BitVec 8) 128)) => hash_Sum_L2 (S : Int) b s.1 s.2) FU ((0 : Int), v) = some ((8 : Int), foldN (tset S ((BitVec.ofNat 64 b.length) <<< 3)) 0 8 v) := by
  refine loopS_cnt (fun i v => ((i : Int), v)) (tset S ((BitVec.ofNat 64 b.length) <<< 3)) 0 8 (fun i v h1 h2 => ?_) (fun v => ?_) FU v (by omega) (fu_lt (by omega))
  · simp only [hash_Sum_L2]
    rw [if_t (by simp; omega), w64_eq (n := 8 * (i : Int)) (by omega), if_t (by omega), w64_eq (n := (S : Int) - 1) (by omega), w64_eq (n := (S : Int) - 1 - (i : Int)) (by omega), if_t ⟨by omega, by omega⟩, w64_eq (n := (i : Int) + 1) (by omega)]
    have e1 : ((S : Int) - 1 - (i : Int)).toNat = S - 1 - i := by omega
    have e2 : (8 * (i : Int)).toNat = 8 * i := by omega
    rw [e1, e2]
    rfl
  · simp only [hash_Sum_L2]
    rw [if_f (by simp)]
theorem sum_eq (b : List (BitVec 8)) (hb : b.length ≤ 4000000000) : hash_Sum b = some (sha b) := by
  unfold hash_Sum
  rw [bind_some' (sum_L1 b hb)]
  generalize hst : foldN (fun i s => blk s (b.drop (64 * i))) 0 (b.length / 64) G_hash_begin = st
  have hl : (b.drop (64 * (b.length / 64))).length = b.length % 64 := by simp; omega
  have hst2 : shaK (pad b) (b.length / 64) = st := by
    rw [← hst]
    unfold shaK
    refine foldN_congr _ 0 _ fun i _ hi s => ?_
    refine blk_congr s fun j hj => ?_
    rw [gl_drop, gl_drop]
    unfold pad
    rw [gl_append, if_pos (by omega)]
  have hsize : (if (decide ((56 : Int) ≤ ((b.drop (64 * (b.length / 64))).length : Int))) = true then some (128 : Int) else some (64 : Int)) = some (((if b.length % 64 < 56 then 64 else 128 : Nat)) : Int) := by
    rw [hl]
    by_cases h : b.length % 64 < 56
    · rw [if_neg (by simp; omega), if_pos h]; rfl
    · rw [if_pos (by simp; omega), if_neg h]; rfl
  simp only []
  rw [hsize]
  generalize hS : (if b.length % 64 < 56 then 64 else 128 : Nat) = S
  have hS2 : S = 64 ∨ S = 128 := by rw [← hS]; split <;> simp
  rw [Option.bind_some, if_t ⟨by omega, by rw [hl]; omega⟩, Option.bind_some]
  rw [bind_some' (sum_L2 S b hS2 _)]
  simp only []
  generalize hT : foldN (tset S ((BitVec.ofNat 64 b.length) <<< 3)) 0 8 ((vput (Vector.replicate 128 (0#8)) 0 ((b.drop (64 * (b.length / 64))).take 128)).setIfInBounds ((b.drop (64 * (b.length / 64))).length : Int).toNat (128#8)) = T
  -- the tail is the padded text's end
  have htail : ∀ j, j < S → gl T.toList j = gl ((pad b).drop (64 * (b.length / 64))) j := by
    intro j hj
    rw [gl_vec, ← hT, gv_tset S _ (by omega) _ 8 (by omega), gl_drop]
    have hr : ((b.drop (64 * (b.length / 64))).length : Int).toNat = b.length % 64 := by rw [hl]; omega
    rw [hr]
    unfold pad
    rw [gl_append, gl_append, gl_append]
    simp only [List.length_cons, List.length_nil, List.length_replicate]
    have hz : zs b.length = S - 9 - b.length % 64 := by
      rw [← hS]; unfold zs; split <;> omega
    have hz2 : b.length % 64 ≤ S - 9 := by rw [← hS]; split <;> omega
    have hz3 : 64 ≤ S := by omega
    by_cases h1 : S - 8 ≤ j ∧ j < S
    · rw [if_pos h1, if_neg (by rw [← hS] at h1; split at h1 <;> omega), if_neg (by rw [← hS] at h1; split at h1 <;> omega), if_neg (by rw [hz]; omega), gl_be _ _ _ (by rw [hz]; omega)]
      congr 2
      rw [hz]; omega
    · rw [if_neg h1]
      by_cases h2 : b.length % 64 = j
      · rw [h2, gv_set_self (by omega), if_neg (by omega), if_pos (by omega)]
        have : 64 * (b.length / 64) + j - b.length = 0 := by omega
        rw [this]; rfl
      · rw [gv_set_ne h2, gv_vput _ (by simp; omega), gl_take _ (by omega), gl_drop]
        by_cases h3 : j < b.length % 64
        · rw [if_pos (by omega)]
        · rw [if_neg (by omega), if_neg (by omega), if_pos (by rw [hz]; omega), gl_zeros, gl_ge _ _ (by omega)]
  rw [bind_some' (block_eq _ _ (by simp))]
  have hb1 : blk st T.toList = shaK (pad b) (b.length / 64 + 1) := by
    unfold shaK
    rw [foldN_succ, Nat.zero_add]
    show _ = blk (shaK (pad b) (b.length / 64)) _
    rw [hst2]
    exact blk_congr st fun j hj => htail j (by omega)
  have hlen := pad_len b
  have hK : (pad b).length / 64 = b.length / 64 + S / 64 := by
    rw [hlen, ← hS]; unfold zs; split <;> omega
  rcases hS2 with rfl | rfl
  · rw [if_f (by simp), Option.bind_some]
    rw [bind_some' (out_L3 _), hb1]
    unfold sha
    rw [hK]
  · rw [if_t (by simp), bind_some' (block_eq _ _ (by simp)), Option.bind_some]
    rw [bind_some' (out_L3 _)]
    unfold sha
    rw [hK, hb1]
    have : blk (shaK (pad b) (b.length / 64 + 1)) ((T.toList.drop 64).take 64) = shaK (pad b) (b.length / 64 + 128 / 64) := by
      rw [show b.length / 64 + 128 / 64 = (b.length / 64 + 1) + 1 by omega]
      conv => rhs; unfold shaK
      rw [foldN_succ, Nat.zero_add]
      show _ = blk (shaK (pad b) (b.length / 64 + 1)) _
      refine blk_congr _ fun j hj => ?_
      rw [gl_take _ hj, gl_drop, htail _ (by omega), gl_drop, gl_drop]
      congr 1; omega
    rw [this]
end Go.Sl.Pu
