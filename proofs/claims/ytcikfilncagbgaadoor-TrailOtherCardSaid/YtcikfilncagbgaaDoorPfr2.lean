import Derived.Test.YtcikfilncagbgaaDoorPfr1
set_option linter.unusedSimpArgs false
set_option linter.unusedVariables false
set_option maxRecDepth 20000
/-! The frontier's arithmetic: lengths and trailing zeros of numbers, the greedy size. -/
namespace Go.Sl
theorem ishl_nat (a k : Nat) (hk : k ≤ 64) (h : a * 2 ^ k < 9223372036854775808) : ishl (a : Int) (k : Int) = ((a * 2 ^ k : Nat) : Int) := by
  unfold ishl
  rw [Int.toNat_natCast, Nat.min_eq_left hk]
  have : ((2 : Int) ^ k) = ((2 ^ k : Nat) : Int) := by simp
  rw [this, ← Int.natCast_mul, w64_nat h]
namespace Pu
open Go.Sl Go.Sl.M Go.Sl.Fr
/-! ## Length -/
theorem len8 : ∀ i : Fin 256, ∃ h : i.val < S_0.length, (i.val = 0 ∨ 2 ^ ((S_0[i.val]'h).toNat - 1) ≤ i.val) ∧ i.val < 2 ^ (S_0[i.val]'h).toNat ∧ (i.val ≠ 0 → 1 ≤ (S_0[i.val]'h).toNat) ∧ (S_0[i.val]'h).toNat ≤ 8 := by decide
theorem len8' (x : BitVec 64) (n : Nat) (hx : x.toNat = n) (h : n < 256) : ∃ r : BitVec 8, lget S_0 ((x.setWidth 8).toNat : Int) = some r ∧ (n = 0 ∨ 2 ^ (r.toNat - 1) ≤ n) ∧ n < 2 ^ r.toNat ∧ (n ≠ 0 → 1 ≤ r.toNat) ∧ r.toNat ≤ 8 := by
  have e : (x.setWidth 8).toNat = n := by
    rw [BitVec.toNat_setWidth, hx]; exact Nat.mod_eq_of_lt (by omega)
  obtain ⟨h1, h2, h3, h4, h5⟩ := len8 ⟨n, h⟩
  refine ⟨S_0[n], lget_at (by rw [e]) h1, h2, h3, h4, h5⟩
theorem shr_len {n s r : Nat} (hr : 1 ≤ r) (h1 : 2 ^ (r - 1) ≤ n / 2 ^ s) (h2 : n / 2 ^ s < 2 ^ r) : 2 ^ (r + s - 1) ≤ n ∧ n < 2 ^ (r + s) := by
  constructor
  · rw [show r + s - 1 = (r - 1) + s by omega, Nat.pow_add]
    exact (Nat.le_div_iff_mul_le (two_pos s)).1 h1
  · rw [Nat.pow_add]
    exact (Nat.div_lt_iff_lt_mul (two_pos s)).1 h2
/-- For numbers of 32 bits. -/
theorem len_eq (n : Nat) (h0 : 0 < n) (h : n < 4294967296) : ∃ r : Nat, math_bits_Len (BitVec.ofInt 64 (n : Int)) = some (r : Int) ∧ 1 ≤ r ∧ r ≤ 32 ∧ 2 ^ (r - 1) ≤ n ∧ n < 2 ^ r := by
  have e0 : BitVec.ofInt 64 (n : Int) = BitVec.ofNat 64 n := by apply BitVec.eq_of_toNat_eq; simp
  have ex : (BitVec.ofNat 64 n).toNat = n := by rw [BitVec.toNat_ofNat]; exact Nat.mod_eq_of_lt (by omega)
  rw [e0]
  generalize hx : BitVec.ofNat 64 n = x at ex
  unfold math_bits_Len
  suffices hs : ∃ r : Nat, math_bits_Len64 x = some (r : Int) ∧ 1 ≤ r ∧ r ≤ 32 ∧ 2 ^ (r - 1) ≤ n ∧ n < 2 ^ r by
    obtain ⟨r, h1, h2⟩ := hs
    exact ⟨r, by rw [bind_some' h1], h2⟩
  unfold math_bits_Len64
  rw [if_f (by rw [decide_eq_true_eq, BitVec.le_def, ex]; show ¬ 4294967296 ≤ n; omega), Option.bind_some]
  by_cases h16 : 65536 ≤ n
  · have e1 : (x >>> 16).toNat = n / 2 ^ 16 := by rw [BitVec.toNat_ushiftRight, ex, Nat.shiftRight_eq_div_pow]
    rw [if_t (by rw [decide_eq_true_eq, BitVec.le_def, ex]; show 65536 ≤ n; omega), Option.bind_some]
    by_cases h8 : 256 ≤ n / 2 ^ 16
    · have e2 : (x >>> 16 >>> 8).toNat = n / 2 ^ 24 := by rw [BitVec.toNat_ushiftRight, e1, Nat.shiftRight_eq_div_pow, Nat.div_div_eq_div_mul]
      obtain ⟨r, h1, h2, h3, h4, h5⟩ := len8' (x >>> 16 >>> 8) _ e2 (by omega)
      have hne : n / 2 ^ 24 ≠ 0 := by omega
      have hr := h4 hne
      rw [if_t (by rw [decide_eq_true_eq, BitVec.le_def, e1]; show 256 ≤ n / 2 ^ 16; omega), Option.bind_some, bind_some' h1]
      refine ⟨r.toNat + 24, ?_, by omega, by omega, ?_⟩
      · rw [w64_id (n := 0 + 16) (by omega) (by omega), w64_id (n := 0 + 16 + 8) (by omega) (by omega), w64_id (by omega) (by omega)]
        refine congrArg some ?_; omega
      · have := shr_len (s := 24) hr (h2.resolve_left hne) h3
        exact this
    · obtain ⟨r, h1, h2, h3, h4, h5⟩ := len8' (x >>> 16) _ e1 (by omega)
      have hne : n / 2 ^ 16 ≠ 0 := by omega
      have hr := h4 hne
      rw [if_f (by rw [decide_eq_true_eq, BitVec.le_def, e1]; show ¬ 256 ≤ n / 2 ^ 16; omega), Option.bind_some, bind_some' h1]
      refine ⟨r.toNat + 16, ?_, by omega, by omega, ?_⟩
      · rw [w64_id (n := 0 + 16) (by omega) (by omega), w64_id (by omega) (by omega)]
        refine congrArg some ?_; omega
      · have := shr_len (s := 16) hr (h2.resolve_left hne) h3
        exact this
  · rw [if_f (by rw [decide_eq_true_eq, BitVec.le_def, ex]; show ¬ 65536 ≤ n; omega), Option.bind_some]
    by_cases h8 : 256 ≤ n
    · have e2 : (x >>> 8).toNat = n / 2 ^ 8 := by rw [BitVec.toNat_ushiftRight, ex, Nat.shiftRight_eq_div_pow]
      obtain ⟨r, h1, h2, h3, h4, h5⟩ := len8' (x >>> 8) _ e2 (by omega)
      have hne : n / 2 ^ 8 ≠ 0 := by omega
      have hr := h4 hne
      rw [if_t (by rw [decide_eq_true_eq, BitVec.le_def, ex]; show 256 ≤ n; omega), Option.bind_some, bind_some' h1]
      refine ⟨r.toNat + 8, ?_, by omega, by omega, ?_⟩
      · rw [w64_id (n := 0 + 8) (by omega) (by omega), w64_id (by omega) (by omega)]
        refine congrArg some ?_; omega
      · have := shr_len (s := 8) hr (h2.resolve_left hne) h3
        exact this
    · obtain ⟨r, h1, h2, h3, h4, h5⟩ := len8' x _ ex (by omega)
      have hr := h4 (by omega)
      rw [if_f (by rw [decide_eq_true_eq, BitVec.le_def, ex]; show ¬ 256 ≤ n; omega), Option.bind_some, bind_some' h1]
      refine ⟨r.toNat, ?_, by omega, by omega, h2.resolve_left (by omega), h3⟩
      rw [w64_id (by omega) (by omega)]
      refine congrArg some ?_; omega
/-! ## Trailing zeros -/
theorem and_neg_odd (a b j : Nat) (h : a + b + 1 = 2 ^ j) : (2 * a + 1) &&& (2 * b + 1) = 1 := by
  apply Nat.eq_of_testBit_eq
  intro i
  rw [Nat.testBit_and]
  cases i with
  | zero => simp [Nat.testBit_zero]
  | succ i =>
    have hb : b = 2 ^ j - (a + 1) := by omega
    have ha : a < 2 ^ j := by omega
    have e1 : (2 * a + 1).testBit (i + 1) = a.testBit i := by rw [Nat.testBit_succ]; congr 1; omega
    have e2 : (2 * b + 1).testBit (i + 1) = b.testBit i := by rw [Nat.testBit_succ]; congr 1; omega
    rw [e1, e2, hb, Nat.testBit_two_pow_sub_succ ha]
    rw [show Nat.testBit 1 (i + 1) = false from by rw [Nat.testBit_succ]; simp]
    cases a.testBit i <;> simp
/-- The lowest bit. -/
theorem odd_split (n : Nat) (h : 0 < n) : ∃ k m, n = 2 ^ k * (2 * m + 1) := by
  induction n using Nat.strongRecOn with
  | ind n ih =>
    by_cases ho : n % 2 = 1
    · exact ⟨0, n / 2, by omega⟩
    · obtain ⟨k, m, hk⟩ := ih (n / 2) (by omega) (by omega)
      refine ⟨k + 1, m, ?_⟩
      rw [Nat.pow_succ, Nat.mul_comm (2 ^ k) 2, Nat.mul_assoc, ← hk]; omega
theorem low_bit (x : BitVec 64) (k m : Nat) (h : x.toNat = 2 ^ k * (2 * m + 1)) : x &&& (-x) = BitVec.ofNat 64 (2 ^ k) ∧ k < 64 := by
  have hx := x.isLt
  have hk : k < 64 := by
    apply Decidable.byContradiction
    intro hc
    have h1 : 2 ^ 64 ≤ 2 ^ k := Nat.pow_le_pow_right (by omega) (by omega)
    have h2 : 2 ^ k * 1 ≤ 2 ^ k * (2 * m + 1) := Nat.mul_le_mul_left _ (by omega)
    omega
  refine ⟨?_, hk⟩
  apply BitVec.eq_of_toNat_eq
  have hp : (2 : Nat) ^ 64 = 2 ^ k * 2 ^ (64 - k) := by rw [← Nat.pow_add]; congr 1; omega
  have hp2 : (2 : Nat) ^ (64 - k) = 2 * 2 ^ (63 - k) := by rw [show 64 - k = (63 - k) + 1 by omega, Nat.pow_succ]; omega
  have hm : 2 * m + 1 < 2 ^ (64 - k) := by
    have : 2 ^ k * (2 * m + 1) < 2 ^ k * 2 ^ (64 - k) := by rw [← hp, ← h]; exact hx
    exact Nat.lt_of_mul_lt_mul_left this
  have hneg : (-x).toNat = 2 ^ k * (2 * (2 ^ (63 - k) - 1 - m) + 1) := by
    have h0 : 0 < x.toNat := by rw [h]; exact Nat.mul_pos (two_pos k) (by omega)
    rw [BitVec.toNat_neg, Nat.mod_eq_of_lt (by omega), h, hp, ← Nat.mul_sub]
    congr 1; omega
  rw [BitVec.toNat_and, h, hneg, BitVec.toNat_ofNat, Nat.mod_eq_of_lt (Nat.pow_lt_pow_right (by omega) hk)]
  rw [Nat.mul_comm, Nat.mul_comm (2 ^ k), ← Nat.shiftLeft_eq, ← Nat.shiftLeft_eq, ← Nat.shiftLeft_and_distrib, and_neg_odd m (2 ^ (63 - k) - 1 - m) (63 - k) (by omega), Nat.shiftLeft_eq, Nat.one_mul]
theorem tz_tab : ∀ k : Fin 64, ∃ h : (((BitVec.ofNat 64 (2 ^ k.val)) * (285870213051353865#64)) >>> 58).toNat < 64, (G_math_bits_deBruijn64tab[(((BitVec.ofNat 64 (2 ^ k.val)) * (285870213051353865#64)) >>> 58).toNat]'h).toNat = k.val := by decide
theorem tz_eq (a : Nat) (h0 : 0 < a) (ha : a < 9223372036854775808) : ∃ k : Nat, math_bits_TrailingZeros (BitVec.ofInt 64 (a : Int)) = some (k : Int) ∧ k < 64 ∧ 2 ^ k ∣ a ∧ ¬ 2 ^ (k + 1) ∣ a := by
  have e0 : BitVec.ofInt 64 (a : Int) = BitVec.ofNat 64 a := by apply BitVec.eq_of_toNat_eq; simp
  have ex : (BitVec.ofNat 64 a).toNat = a := by rw [BitVec.toNat_ofNat]; exact Nat.mod_eq_of_lt (by omega)
  rw [e0]
  generalize hx : BitVec.ofNat 64 a = x at ex
  obtain ⟨k, m, hk⟩ := odd_split a h0
  obtain ⟨h1, h2⟩ := low_bit x k m (by rw [ex, hk])
  refine ⟨k, ?_, h2, ⟨_, hk⟩, ?_⟩
  · unfold math_bits_TrailingZeros
    have : math_bits_TrailingZeros64 x = some (k : Int) := by
      unfold math_bits_TrailingZeros64
      rw [if_f (by rw [decide_eq_true_eq]; intro h; rw [h] at ex; simp at ex; omega), h1]
      obtain ⟨h3, h4⟩ := tz_tab ⟨k, h2⟩
      rw [bind_some' (vget_at rfl h3)]
      exact congrArg (fun n : Nat => some (n : Int)) h4
    rw [bind_some' this]
  · rintro ⟨c, hc⟩
    rw [hk, Nat.pow_succ, Nat.mul_assoc] at hc
    have := Nat.eq_of_mul_eq_mul_left (two_pos k) hc
    omega
/-- The size as a number of the program. -/
def p2 (k : Nat) : Int := ((2 ^ k : Nat) : Int)
theorem pw_lt {k : Nat} {b : Nat} (h : 2 ^ k ≤ b) : p2 k ≤ (b : Int) := by unfold p2; omega
theorem pow_lt63 {k n : Nat} (h : 2 ^ k ≤ n) (hn : n ≤ 2147483647) : k < 31 := by
  apply Decidable.byContradiction
  intro hc
  have : 2 ^ 31 ≤ 2 ^ k := Nat.pow_le_pow_right (by omega) (by omega)
  omega
theorem segment_eq (a e k : Nat) (hl : a < e) (he : e ≤ 2147483647) (h : IsSz a (e - a) k) : frontier_segment (a : Int) (e : Int) = some (p2 k) := by
  unfold frontier_segment
  obtain ⟨r, h1, h2, h3, h4, h5⟩ := len_eq (e - a) (by omega) (by omega)
  rw [w64_id (n := (e : Int) - (a : Int)) (by omega) (by omega), show (e : Int) - (a : Int) = ((e - a : Nat) : Int) by omega, bind_some' h1, w64_id (n := (r : Int) - 1) (by omega) (by omega), show (r : Int) - 1 = ((r - 1 : Nat) : Int) by omega, if_t (by omega)]
  have hs : ∀ j : Nat, j ≤ 62 → ishl (1 : Int) (j : Int) = p2 j := fun j hj => by
    have : 2 ^ j ≤ 2 ^ 62 := Nat.pow_le_pow_right (by omega) hj
    have := ishl_nat 1 j (by omega) (by rw [Nat.one_mul]; omega)
    rw [Nat.one_mul] at this
    exact this
  have hr31 : r - 1 < 31 := pow_lt63 h4 (by omega)
  by_cases h0 : 0 < a
  · rw [if_t (by rw [decide_eq_true_eq]; omega)]
    obtain ⟨z, z1, z2, z3, z4⟩ := tz_eq a h0 (by omega)
    have hz : 2 ^ z ≤ a := Nat.le_of_dvd h0 z3
    have hz31 : z < 31 := pow_lt63 hz (by omega)
    rw [bind_some' z1, if_t (by omega), hs z (by omega), hs (r - 1) (by omega), Option.bind_some]
    by_cases hc : z < r - 1
    · have : 2 ^ z < 2 ^ (r - 1) := Nat.pow_lt_pow_right (by omega) hc
      rw [if_t (by unfold p2; omega)]
      have : IsSz a (e - a) z := ⟨by omega, z3, fun hh => z4 hh.2⟩
      rw [isSz_uniq this h]
    · have : 2 ^ (r - 1) ≤ 2 ^ z := Nat.pow_le_pow_right (by omega) (by omega)
      rw [if_f (by unfold p2; omega)]
      have : IsSz a (e - a) (r - 1) := ⟨h4, Nat.dvd_trans (pow_dvd (by omega)) z3, fun hh => by
        have := hh.1; rw [show r - 1 + 1 = r by omega] at this; omega⟩
      rw [isSz_uniq this h]
  · rw [if_f (by rw [decide_eq_true_eq]; omega), hs (r - 1) (by omega)]
    have : IsSz a (e - a) (r - 1) := ⟨h4, by rw [show a = 0 by omega]; exact Nat.dvd_zero _, fun hh => by
        have := hh.1; rw [show r - 1 + 1 = r by omega] at this; omega⟩
    rw [isSz_uniq this h]
theorem tmod_dvd (a m : Nat) : (Int.tmod (a : Int) (m : Int) = 0) ↔ m ∣ a := by
  rw [show Int.tmod (a : Int) (m : Int) = ((a % m : Nat) : Int) from rfl]
  rw [Nat.dvd_iff_mod_eq_zero]; omega
theorem size_eq (a e k : Nat) (hl : a < e) (he : e ≤ 2147483647) (h : IsSz a (e - a) k) : rolodexref15_Size (a : Int) (e : Int) = some (p2 k) := by
  unfold rolodexref15_Size
  have key : ∀ (n j : Nat), j + n = k → 2 ^ j ≤ e - a → ∀ fuel, n < fuel → loopS (fun (s : Int) => rolodexref15_Size_L1 (e : Int) (a : Int) s) fuel (p2 j) = some (p2 k) := by
    intro n
    induction n with
    | zero =>
      intro j hj hle fuel hf
      obtain ⟨fuel, rfl⟩ : ∃ m, fuel = m + 1 := ⟨fuel - 1, by omega⟩
      have hjk : j = k := by omega
      subst hjk
      apply loopS_brk
      simp only [rolodexref15_Size_L1]
      have hps := pow_step j
      have hp := two_pos j
      have e1 : w64 ((2 : Int) * p2 j) = ((2 ^ (j + 1) : Nat) : Int) := by unfold p2; rw [w64_id (by omega) (by omega)]; omega
      have e2 : w64 ((e : Int) - (a : Int)) = ((e - a : Nat) : Int) := by rw [w64_id (by omega) (by omega)]; omega
      rw [e1, e2]
      by_cases hc : 2 ^ (j + 1) ≤ e - a
      · rw [if_t (by rw [decide_eq_true_eq]; omega), if_t (by omega), Option.bind_some, if_f (by rw [decide_eq_true_eq, tmod_dvd]; intro hd; exact h.2.2 ⟨hc, hd⟩)]
      · rw [if_f (by rw [decide_eq_true_eq]; omega), Option.bind_some, if_f (by decide)]
    | succ n ih =>
      intro j hj hle fuel hf
      obtain ⟨fuel, rfl⟩ : ∃ m, fuel = m + 1 := ⟨fuel - 1, by omega⟩
      have hps := pow_step j
      have hp := two_pos j
      have hjk : 2 ^ (j + 1) ≤ 2 ^ k := Nat.pow_le_pow_right (by omega) (by omega)
      have hd : 2 ^ (j + 1) ∣ a := Nat.dvd_trans (pow_dvd (by omega)) h.2.1
      have hk1 := h.1
      have e1 : w64 ((2 : Int) * p2 j) = ((2 ^ (j + 1) : Nat) : Int) := by unfold p2; rw [w64_id (by omega) (by omega)]; omega
      have e2 : w64 ((e : Int) - (a : Int)) = ((e - a : Nat) : Int) := by rw [w64_id (by omega) (by omega)]; omega
      rw [loopS_next (s' := p2 (j + 1))]
      · exact ih (j + 1) (by omega) (by omega) fuel (by omega)
      · simp only [rolodexref15_Size_L1]
        rw [e1, e2, if_t (by rw [decide_eq_true_eq]; omega), if_t (by omega), Option.bind_some, if_t (by rw [decide_eq_true_eq, tmod_dvd]; exact hd)]
        rfl
  have hk31 : k < 31 := pow_lt63 h.1 (by omega)
  have h1 := key k 0 (by omega) (by rw [Nat.pow_zero]; omega) FU (fu_lt (by omega))
  have h1' : loopS (fun (s : Int) => rolodexref15_Size_L1 (e : Int) (a : Int) s) FU (1 : Int) = some (p2 k) := h1
  rw [bind_some' h1']
end Pu
end Go.Sl
