import Derived.Test.YtodeiommhponnaaDoorM
import Derived.Test.YtodeiommhponnaaDoorPb
set_option linter.unusedSimpArgs false
set_option linter.unusedVariables false
/-! The hash: the program's and the reference's are one. -/
namespace Go.Sl.Pu
open Go.Sl Go.Sl.M
/-! ## Words -/
def gv {w n : Nat} (v : Vector (BitVec w) n) (j : Nat) : BitVec w := v[j]?.getD 0
theorem vget_gv {w n : Nat} {v : Vector (BitVec w) n} {i : Int} {k : Nat} (hi : i = (k : Int)) (h : k < n) : vget v i = some (gv v k) := by
  rw [vget_at hi h]; simp [gv, h]
theorem gv_set_self {w n : Nat} {v : Vector (BitVec w) n} {k : Nat} {x : BitVec w} (h : k < n) : gv (v.setIfInBounds k x) k = x := by
  simp [gv, h]
theorem gv_set_ne {w n : Nat} {v : Vector (BitVec w) n} {k j : Nat} {x : BitVec w} (h : k ≠ j) : gv (v.setIfInBounds k x) j = gv v j := by
  simp [gv, Vector.getElem?_setIfInBounds, h]
theorem set_set {w n : Nat} {v : Vector (BitVec w) n} {k : Nat} {x y : BitVec w} : (v.setIfInBounds k x).setIfInBounds k y = v.setIfInBounds k y := by
  apply Vector.ext; intro i hi
  simp only [Vector.getElem_setIfInBounds]
  split <;> rfl
def gl {w : Nat} (b : List (BitVec w)) (j : Nat) : BitVec w := b.getD j 0
theorem rot_eq {x : BitVec 32} {k : Int} {a b : Nat} (h1 : ((BitVec.ofInt 64 k) &&& 31#64).toNat = a) (h2 : (32#64 - ((BitVec.ofInt 64 k) &&& 31#64)).toNat = b) : math_bits_RotateLeft32 x k = some (x >>> b ||| x <<< a) := by
  unfold math_bits_RotateLeft32
  rw [h1, h2, BitVec.or_comm]; rfl
theorem turned_eq {x n : BitVec 32} {a b : Nat} (h1 : n.toNat = b) (h2 : (32#32 - n).toNat = a) : rolodexref02_turned x n = some (x >>> b ||| x <<< a) := by
  unfold rolodexref02_turned
  rw [h1, h2]; rfl
def rr (x : BitVec 32) (n : Nat) : BitVec 32 := x >>> n ||| x <<< (32 - n)
/-! ## Bytes of a number -/
def be {w : Nat} (x : BitVec w) (k : Nat) : List (BitVec 8) := (List.range k).map fun j => (x >>> (8 * (k - 1 - j))).setWidth 8
theorem be_len {w : Nat} (x : BitVec w) (k : Nat) : (be x k).length = k := by simp [be]
def le {w : Nat} (x : BitVec w) (k : Nat) : List (BitVec 8) := (List.range k).map fun j => (x >>> (8 * j)).setWidth 8
theorem byte_mod (x : BitVec 64) : (x % 256#64).setWidth 8 = x.setWidth 8 := by
  apply BitVec.eq_of_toNat_eq
  simp [BitVec.toNat_setWidth, BitVec.toNat_umod]
theorem div_shift (x : BitVec 64) : x / 256#64 = x >>> 8 := by
  apply BitVec.eq_of_toNat_eq
  simp [BitVec.toNat_udiv, Nat.shiftRight_eq_div_pow]
theorem number_eq (x : BitVec 64) (k : Nat) (hk : k ≤ 1000) : rolodexref01_Number x k = some (be x k) := by
  unfold rolodexref01_Number
  have h1 := loopS_cnt (f := fun (s : (BitVec 64) × Int × (List (BitVec 8))) => rolodexref01_Number_L1 k s.1 s.2.1 s.2.2) (fun i (_ : Unit) => (x >>> (8 * i), (i : Int), le x i)) (fun _ s => s) 0 k (fun i s h1 h2 => by
      simp only [rolodexref01_Number_L1]
      rw [if_t (by simp; omega), if_t (by simp [le, AP]; omega), byte_mod, div_shift]
      have e : le x (i + 1) = le x i ++ [(x >>> (8 * i)).setWidth 8] := by simp [le, List.range_succ]
      rw [e, w64_eq (by omega), show 8 * (i + 1) = 8 * i + 8 by omega, BitVec.shiftRight_add]
      rfl) (fun s => by
      simp only [rolodexref01_Number_L1]
      rw [if_f (by simp)]) FU () (by omega) (fu_lt (by omega))
  have e0 : ((x, (0 : Int), ([] : List (BitVec 8))) : (BitVec 64) × Int × (List (BitVec 8))) = (x >>> (8 * 0), ((0 : Nat) : Int), le x 0) := by simp [le]
  rw [e0, bind_some' h1]
  -- the other way round
  have h2 := loopS_cnt (f := fun (s : Int × (List (BitVec 8))) => rolodexref01_Number_L2 (le x k) s.1 s.2) (fun i (_ : Unit) => ((k : Int) - 1 - i, (be x k).take i)) (fun _ s => s) 0 k (fun i s h1 h2 => by
      simp only [rolodexref01_Number_L2]
      rw [if_t (by simp; omega)]
      have hl : lget (le x k) ((k : Int) - 1 - i) = some ((x >>> (8 * (k - 1 - i))).setWidth 8) := by
        rw [lget_at (k := k - 1 - i) (by omega) (by simp [le]; omega)]
        simp [le]
      rw [bind_some' hl, if_t (by simp [AP]; omega), w64_eq (by omega)]
      have e : (be x k).take (i + 1) = (be x k).take i ++ [(x >>> (8 * (k - 1 - i))).setWidth 8] := by
        rw [List.take_succ_eq_append_getElem (by rw [be_len]; exact h2)]
        simp [be]
      rw [e]
      have : (k : Int) - 1 - (i : Int) - 1 = (k : Int) - 1 - ((i + 1 : Nat) : Int) := by omega
      rw [this]) (fun s => by
      simp only [rolodexref01_Number_L2]
      rw [if_f (by simp; omega)]) FU () (by omega) (fu_lt (by omega))
  have e1 : ((w64 ((k : Int) - 1), ([] : List (BitVec 8))) : Int × List (BitVec 8)) = ((k : Int) - 1 - ((0 : Nat) : Int), (be x k).take 0) := by
    rw [w64_eq (by omega)]; simp
  rw [e1, bind_some' h2, List.take_of_length_le (by rw [be_len]; omega)]
/-- The number that bytes stand for. -/
def val (b : List (BitVec 8)) : BitVec 64 := b.foldl (fun x c => x * 256#64 + c.setWidth 64) 0#64
theorem value_eq (b : List (BitVec 8)) (hb : b.length ≤ 4294967296) : rolodexref01_Value b = some (val b) := by
  unfold rolodexref01_Value
  have h1 := loopS_cnt (f := fun (s : (BitVec 64) × Int) => rolodexref01_Value_L1 b s.1 s.2) (fun i (_ : Unit) => (val (b.take i), (i : Int))) (fun _ s => s) 0 b.length (fun i s h1 h2 => by
      simp only [rolodexref01_Value_L1]
      have e : val (b.take (i + 1)) = val (b.take i) * 256#64 + b[i].setWidth 64 := by
        unfold val; rw [List.take_succ_eq_append_getElem h2, List.foldl_append]; rfl
      rw [if_t (by simp; omega), bind_some' (lget_at rfl h2), w64_eq (by omega), e]
      rfl) (fun s => by
      simp only [rolodexref01_Value_L1]
      rw [if_f (by simp)]) FU () (by omega) (fu_lt (by omega))
  have e0 : ((0#64, (0 : Int)) : (BitVec 64) × Int) = (val (b.take 0), ((0 : Nat) : Int)) := by simp [val]
  rw [e0, bind_some' h1, List.take_length]
/-! ## The schedule -/
def sg0 (x : BitVec 32) : BitVec 32 := (rr x 7 ^^^ rr x 18) ^^^ (x >>> 3)
def sg1 (x : BitVec 32) : BitVec 32 := (rr x 17 ^^^ rr x 19) ^^^ (x >>> 10)
def stW (i : Nat) (v : Vector (BitVec 32) 64) : Vector (BitVec 32) 64 := v.setIfInBounds i (((gv v (i - 16) + sg0 (gv v (i - 15))) + gv v (i - 7)) + sg1 (gv v (i - 2)))
theorem sched_L2 (v : Vector (BitVec 32) 64) : loopS (fun (s : Int × (Vector (BitVec 32) 64)) => hash_schedule_L2 s.1 s.2) FU (16, v) = some (64, foldN stW 16 48 v) := by
  refine loopS_cnt (fun i v => ((i : Int), v)) stW 16 64 (fun i v h1 h2 => ?_) (fun v => ?_) FU v (by omega) (fu_lt (by omega))
  · simp only [hash_schedule_L2]
    rw [if_t (by simp; omega), w64_eq (n := (i : Int) - 15) (by omega), w64_eq (n := (i : Int) - 2) (by omega), w64_eq (n := (i : Int) - 16) (by omega), w64_eq (n := (i : Int) - 7) (by omega), w64_eq (n := (i : Int) + 1) (by omega)]
    simp only [vget_gv (n := 64) (v := v) (i := (i : Int) - 15) (k := i - 15) (by omega) (by omega), vget_gv (n := 64) (v := v) (i := (i : Int) - 2) (k := i - 2) (by omega) (by omega), vget_gv (n := 64) (v := v) (i := (i : Int) - 16) (k := i - 16) (by omega) (by omega), vget_gv (n := 64) (v := v) (i := (i : Int) - 7) (k := i - 7) (by omega) (by omega), Option.bind_some,
      rot_eq (k := -7) (a := 25) (b := 7) (by decide) (by decide), rot_eq (k := -18) (a := 14) (b := 18) (by decide) (by decide), rot_eq (k := -17) (a := 15) (b := 17) (by decide) (by decide), rot_eq (k := -19) (a := 13) (b := 19) (by decide) (by decide)]
    rw [if_t ⟨by omega, by omega⟩]
    rfl
  · simp only [hash_schedule_L2]
    rw [if_f (by simp)]
theorem shift3 (x : BitVec 32) : x / 8#32 = x >>> 3 := by
  apply BitVec.eq_of_toNat_eq; simp [BitVec.toNat_udiv, Nat.shiftRight_eq_div_pow]
theorem shift10 (x : BitVec 32) : x / 1024#32 = x >>> 10 := by
  apply BitVec.eq_of_toNat_eq; simp [BitVec.toNat_udiv, Nat.shiftRight_eq_div_pow]
theorem words_L2 (v : Vector (BitVec 32) 64) : loopS (fun (s : Int × (Vector (BitVec 32) 64)) => rolodexref02_words_L2 s.1 s.2) FU (16, v) = some (64, foldN stW 16 48 v) := by
  refine loopS_cnt (fun i v => ((i : Int), v)) stW 16 64 (fun i v h1 h2 => ?_) (fun v => ?_) FU v (by omega) (fu_lt (by omega))
  · simp only [rolodexref02_words_L2]
    rw [if_t (by simp; omega), w64_eq (n := (i : Int) - 15) (by omega), w64_eq (n := (i : Int) - 2) (by omega), w64_eq (n := (i : Int) - 16) (by omega), w64_eq (n := (i : Int) - 7) (by omega), w64_eq (n := (i : Int) + 1) (by omega)]
    simp only [vget_gv (n := 64) (v := v) (i := (i : Int) - 15) (k := i - 15) (by omega) (by omega), vget_gv (n := 64) (v := v) (i := (i : Int) - 2) (k := i - 2) (by omega) (by omega), vget_gv (n := 64) (v := v) (i := (i : Int) - 16) (k := i - 16) (by omega) (by omega), vget_gv (n := 64) (v := v) (i := (i : Int) - 7) (k := i - 7) (by omega) (by omega), Option.bind_some,
      turned_eq (n := 7#32) (a := 25) (b := 7) (by decide) (by decide), turned_eq (n := 18#32) (a := 14) (b := 18) (by decide) (by decide), turned_eq (n := 17#32) (a := 15) (b := 17) (by decide) (by decide), turned_eq (n := 19#32) (a := 13) (b := 19) (by decide) (by decide), shift3, shift10]
    rw [if_t ⟨by omega, by omega⟩]
    rfl
  · simp only [rolodexref02_words_L2]
    rw [if_f (by simp)]
def pb (b : List (BitVec 8)) (i : Nat) (v : Vector (BitVec 32) 64) : Vector (BitVec 32) 64 := v.setIfInBounds (i / 4) ((gv v (i / 4) <<< 8) ||| (gl b i).setWidth 32)
def wd (b : List (BitVec 8)) (t : Nat) : BitVec 32 := ((((gl b (4 * t)).setWidth 32 <<< 8 ||| (gl b (4 * t + 1)).setWidth 32) <<< 8 ||| (gl b (4 * t + 2)).setWidth 32) <<< 8) ||| (gl b (4 * t + 3)).setWidth 32
def pw (b : List (BitVec 8)) (t : Nat) (v : Vector (BitVec 32) 64) : Vector (BitVec 32) 64 := v.setIfInBounds t (wd b t)
theorem pb4 (b : List (BitVec 8)) (t : Nat) (v : Vector (BitVec 32) 64) (ht : t < 64) (h0 : gv v t = 0) : foldN (pb b) (4 * t) 4 v = pw b t v := by
  have e0 : (4 * t) / 4 = t := by omega
  have e1 : (4 * t + 1) / 4 = t := by omega
  have e2 : (4 * t + 1 + 1) / 4 = t := by omega
  have e3 : (4 * t + 1 + 1 + 1) / 4 = t := by omega
  simp only [foldN, pb, e0, e1, e2, e3, gv_set_self ht, set_set, h0, pw, wd]
  simp
theorem gv_pw (b : List (BitVec 8)) : ∀ (t i : Nat) (v : Vector (BitVec 32) 64), (∀ j, i ≤ j → gv v j = 0) → ∀ j, i + t ≤ j → gv (foldN (pw b) i t v) j = 0
  | 0, i, v, h, j, hj => h j (by omega)
  | t + 1, i, v, h, j, hj => gv_pw b t (i + 1) (pw b i v) (fun k hk => by unfold pw; rw [gv_set_ne (by omega)]; exact h k (by omega)) j (by omega)
theorem gv_zero (j : Nat) : gv (Vector.replicate 64 (0#32)) j = 0 := by
  unfold gv
  by_cases h : j < 64
  · simp [h]
  · simp [Vector.getElem?_eq_none (Nat.not_lt.1 h)]
theorem pb_pw (b : List (BitVec 8)) : ∀ (t : Nat), t ≤ 16 → foldN (pb b) 0 (4 * t) (Vector.replicate 64 (0#32)) = foldN (pw b) 0 t (Vector.replicate 64 (0#32))
  | 0, _ => rfl
  | t + 1, h => by
    rw [show 4 * (t + 1) = 4 * t + 4 by omega, foldN_add, pb_pw b t (by omega), foldN_succ (pw b) t 0, Nat.zero_add, Nat.zero_add]
    exact pb4 b t _ (by omega) (gv_pw b t 0 _ (fun j _ => gv_zero j) t (by omega))
theorem sched_L1 (b : List (BitVec 8)) (hb : 64 ≤ b.length) (v : Vector (BitVec 32) 64) : loopS (fun (s : Int × (Vector (BitVec 32) 64)) => hash_schedule_L1 (b.take 64) s.1 s.2) FU (0, v) = some (64, foldN (pb b) 0 64 v) := by
  refine loopS_cnt (fun i v => ((i : Int), v)) (pb b) 0 64 (fun i v h1 h2 => ?_) (fun v => ?_) FU v (by omega) (fu_lt (by omega))
  · simp only [hash_schedule_L1]
    have hd : w64 (Int.tdiv (i : Int) 4) = ((i / 4 : Nat) : Int) := by
      rw [show (4 : Int) = ((4 : Nat) : Int) from rfl, ← Int.ofNat_tdiv]; exact w64_nat (by omega)
    rw [if_t (by simp; omega), hd, w64_eq (n := (i : Int) + 1) (by omega)]
    have hg : lget (b.take 64) (i : Int) = some (gl b i) := by
      rw [lget_at rfl (by simp; omega)]; simp [gl, List.getElem?_eq_getElem (show i < b.length by omega)]
    rw [bind_some' hg, bind_some' (vget_gv rfl (by omega)), if_t ⟨by omega, by omega⟩]
    rfl
  · simp only [hash_schedule_L1]
    rw [if_f (by simp; omega)]
theorem or_step (Y : BitVec 32) (c : BitVec 8) : Y * 256#32 + c.setWidth 32 = Y <<< 8 ||| c.setWidth 32 := by
  have e : Y * 256#32 = Y <<< 8 := by
    apply BitVec.eq_of_toNat_eq; simp [BitVec.toNat_mul, BitVec.toNat_shiftLeft, Nat.shiftLeft_eq]
  rw [e]
  apply BitVec.add_eq_or_of_and_eq_zero
  apply BitVec.eq_of_getLsbD_eq
  intro i hi
  simp only [BitVec.getLsbD_and, BitVec.getLsbD_shiftLeft, BitVec.getLsbD_setWidth, BitVec.getLsbD_zero]
  by_cases h : i < 8
  · simp [h]
  · rw [BitVec.getLsbD_of_ge c i (by omega)]; simp
theorem val4 (c0 c1 c2 c3 : BitVec 8) : (val [c0, c1, c2, c3]).setWidth 32 = (((c0.setWidth 32 <<< 8 ||| c1.setWidth 32) <<< 8 ||| c2.setWidth 32) <<< 8) ||| c3.setWidth 32 := by
  have hs : ∀ (X : BitVec 64) (c : BitVec 8), (X * 256#64 + c.setWidth 64).setWidth 32 = (X.setWidth 32) <<< 8 ||| c.setWidth 32 := by
    intro X c
    rw [← or_step]
    apply BitVec.eq_of_toNat_eq
    simp only [BitVec.toNat_setWidth, BitVec.toNat_add, BitVec.toNat_mul, BitVec.toNat_ofNat]
    omega
  simp only [val, List.foldl_cons, List.foldl_nil, hs]
  simp
theorem words_L1 (b : List (BitVec 8)) (hb : 64 ≤ b.length) (v : Vector (BitVec 32) 64) : loopS (fun (s : Int × (Vector (BitVec 32) 64)) => rolodexref02_words_L1 b s.1 s.2) FU (0, v) = some (16, foldN (pw b) 0 16 v) := by
  refine loopS_cnt (fun i v => ((i : Int), v)) (pw b) 0 16 (fun i v h1 h2 => ?_) (fun v => ?_) FU v (by omega) (fu_lt (by omega))
  · simp only [rolodexref02_words_L1]
    rw [if_t (by simp; omega), w64_eq (n := 4 * (i : Int)) (by omega), w64_eq (n := 4 * (i : Int) + 4) (by omega), w64_eq (n := (i : Int) + 1) (by omega)]
    have hsl : lslice b (4 * (i : Int)) (4 * (i : Int) + 4) = some [gl b (4 * i), gl b (4 * i + 1), gl b (4 * i + 2), gl b (4 * i + 3)] := by
      rw [lslice_at (a := 4 * i) (b := 4 * i + 4) (by omega) (by omega) (by omega) (by omega)]
      congr 1
      apply List.ext_getElem
      · simp; omega
      · intro j h1 h2
        simp only [List.length_cons, List.length_nil] at h2
        have hj : j = 0 ∨ j = 1 ∨ j = 2 ∨ j = 3 := by omega
        rcases hj with rfl | rfl | rfl | rfl <;> simp [gl, List.getElem?_eq_getElem, show 4 * i < b.length by omega, show 4 * i + 1 < b.length by omega, show 4 * i + 2 < b.length by omega, show 4 * i + 3 < b.length by omega]
    rw [bind_some' hsl, bind_some' (value_eq _ (by simp)), if_t ⟨by omega, by omega⟩, val4]
    rfl
  · simp only [rolodexref02_words_L1]
    rw [if_f (by simp)]
def sched (b : List (BitVec 8)) : Vector (BitVec 32) 64 := foldN stW 16 48 (foldN (pw b) 0 16 (Vector.replicate 64 (0#32)))
theorem schedule_eq (b : List (BitVec 8)) (hb : 64 ≤ b.length) : hash_schedule b = some (sched b) := by
  unfold hash_schedule
  rw [bind_some' (lslice_at (lo := 0) (hi := 64) (a := 0) (b := 64) rfl rfl (by omega) hb), List.drop_zero, bind_some' (sched_L1 b hb _)]
  have := pb_pw b 16 (by omega)
  rw [show 4 * 16 = 64 from rfl] at this
  simp only [this, sched_L2, Option.bind_some]
  rfl
theorem words_eq (b : List (BitVec 8)) (hb : 64 ≤ b.length) : rolodexref02_words b = some (sched b) := by
  unfold rolodexref02_words
  rw [bind_some' (words_L1 b hb _)]
  simp only [words_L2, Option.bind_some]
  rfl
end Go.Sl.Pu
