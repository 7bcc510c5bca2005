import Derived.Test.YtheldkljmefbaaaDoorPhd1
set_option linter.unusedSimpArgs false
set_option linter.unusedVariables false
set_option maxRecDepth 20000
/-! Heads: entries; right heads. -/
namespace Go.Sl.Pu
open Go.Sl Go.Sl.M
attribute [local irreducible] w64 val hat n4 be sha hvrf
theorem hleaf_eq (b : List (BitVec 8)) (hb : b.length ≤ 3999999999) : frontier_Leaf b = some (sha (0#8 :: b)) := by
  unfold frontier_Leaf
  rw [bind_some' (hconcat_eq _ (by simp; omega) (by simp))]
  have : [[0#8], b].flatten = 0#8 :: b := by simp
  rw [this, bind_some' (sum_eq _ (by simp; omega))]
theorem hrleaf_eq (b : List (BitVec 8)) (hb : b.length ≤ 3999999999) : rolodexref15_Leaf b = some (sha (0#8 :: b)) := by
  unfold rolodexref15_Leaf
  rw [if_t (hap_ok (by simp; omega)), bind_some' (sumr_eq _ (by simp; omega))]; rfl
theorem ofInt_mod (x : Int) : (BitVec.ofInt 64 x) % (4294967296#64) = (BitVec.ofInt 32 x).setWidth 64 := by
  apply BitVec.eq_of_toNat_eq
  rw [BitVec.toNat_umod, BitVec.toNat_setWidth, BitVec.toNat_ofInt, BitVec.toNat_ofInt]
  simp only [BitVec.toNat_ofNat, Nat.reducePow, Nat.reduceMod]
  omega
theorem entryh_eq (e : Int) (t : T_api_Hash) : head_Entry e t = some (sha (0#8 :: (be (BitVec.ofInt 32 e) 4 ++ t.toList))) := by
  unfold head_Entry
  rw [bind_some' (wU32_eq [] (by simp) _), bind_some' (wPlain_eq _ _ (by simp [be_len])), bind_some' (wOut_eq _ (by simp [be_len])), bind_some' (hleaf_eq _ (by simp [be_len]))]
  rfl
theorem rentryh_eq (e : Int) (t : T_api_Hash) : rolodexref17_Entry e t = some (sha (0#8 :: (be (BitVec.ofInt 32 e) 4 ++ t.toList))) := by
  unfold rolodexref17_Entry
  have hn : rolodexref01_Number ((BitVec.ofInt 64 e) % (4294967296#64)) (4 : Int) = some (be (BitVec.ofInt 32 e) 4) := by
    rw [ofInt_mod, ← be_setWidth (BitVec.ofInt 32 e) 4 (by omega) (by omega)]
    exact number_eq _ 4 (by omega)
  rw [bind_some' hn, if_t (hap_ok (by simp [be_len])), bind_some' (hrleaf_eq _ (by simp [be_len]))]
theorem headBytes (h : T_rolodexref17_Head) (b : List (BitVec 8)) : rolodexlaw17_HeadBytes h b = some true := by
  unfold rolodexlaw17_HeadBytes
  rw [bind_some' awake17, if_f (by decide), Option.bind_some]
  by_cases hb : 200 < b.length
  · rw [if_t (by rw [decide_eq_true_eq]; omega), bind_some' awake17]
  · have hl : (if isHd h then (encS h, (0 : Int)) else ([], 1)).1.length ≤ 4294967296 := by
      split
      · show (encS h).length ≤ _; rw [encS_len]; omega
      · simp
    rw [if_f (by rw [decide_eq_true_eq]; omega), bind_some' (encode_eq h), bind_some' (rencode_eq h), bind_some' (decode_eq b (by omega)), bind_some' (rdecode_eq b (by omega)), if_t (decide_eq_true rfl), bind_some' (same_eq _ _ hl), Option.bind_some, decide_eq_true rfl, if_t rfl, decide_eq_true rfl, Option.bind_some, if_t rfl, decide_eq_true rfl, Option.bind_some, if_t rfl, bind_some' (entryh_eq _ _), bind_some' (rentryh_eq _ _), Option.bind_some, decide_eq_true rfl]
noncomputable def rightS (s : T_head_Signed) (p : List (BitVec 8)) : Bool := if isHd s.1 then hvrf p (encS s.1) s.2 else false
theorem right_eq (s : T_head_Signed) (p : List (BitVec 8)) (hs : s.2.length ≤ 2000000000) (hp : p.length ≤ 2000000000) : head_Right s p = some (rightS s p) := by
  unfold head_Right rightS
  rw [bind_some' (encode_eq _)]
  by_cases hh : isHd s.1
  · rw [if_pos hh, if_t (by simp), bind_some' (hverify_eq _ _ _ hp (by show (encS s.1).length ≤ _; rw [encS_len]; omega) hs), Option.bind_some, if_pos hh]
  · rw [if_neg hh, if_f (by simp), Option.bind_some, if_neg hh]
theorem rright_eq (s : T_rolodexref17_Signed) (p : List (BitVec 8)) (hs : s.2.length ≤ 2000000000) (hp : p.length ≤ 2000000000) : rolodexref17_Right s p = some (rightS s p) := by
  unfold rolodexref17_Right rightS
  rw [bind_some' (rencode_eq _)]
  by_cases hh : isHd s.1
  · rw [if_pos hh, if_t (by simp), bind_some' (hrverify_eq _ _ _ hp (by show (encS s.1).length ≤ _; rw [encS_len]; omega) hs), Option.bind_some, if_pos hh]
  · rw [if_neg hh, if_f (by simp), Option.bind_some, if_neg hh]
theorem headRight (s : T_rolodexref17_Signed) (p : List (BitVec 8)) : rolodexlaw17_HeadRight s p = some true := by
  unfold rolodexlaw17_HeadRight
  rw [bind_some' awake17, if_f (by decide), Option.bind_some]
  by_cases hb : 9000 < s.2.length
  · rw [if_t (by rw [decide_eq_true_eq]; omega), Option.bind_some, if_t rfl, bind_some' awake17]
  · rw [if_f (by rw [decide_eq_true_eq]; omega), Option.bind_some]
    by_cases hp : 200 < p.length
    · rw [if_t (by rw [decide_eq_true_eq]; omega), bind_some' awake17]
    · rw [if_f (by rw [decide_eq_true_eq]; omega), Option.bind_some, bind_some' (right_eq (s.1, s.2) p (by show s.2.length ≤ _; omega) (by omega)), bind_some' (rright_eq s p (by omega) (by omega))]
      simp
end Go.Sl.Pu
