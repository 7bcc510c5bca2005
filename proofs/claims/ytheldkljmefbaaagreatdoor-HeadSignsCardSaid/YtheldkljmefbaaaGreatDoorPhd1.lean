import Derived.Test.YtheldkljmefbaaaGreatDoorPhd0
set_option linter.unusedSimpArgs false
set_option linter.unusedVariables false
set_option maxRecDepth 20000
/-! Heads: their bytes, there and back. -/
namespace Go.Sl.Pu
open Go.Sl Go.Sl.M
attribute [local irreducible] w64 val hat n4 be
def isHd (h : T_head_Head) : Prop := (1 ≤ h.1 ∧ h.1 ≤ 2147483647) ∧ (1 ≤ h.2.1 ∧ h.2.1 ≤ 2147483647)
instance (h : T_head_Head) : Decidable (isHd h) := by unfold isHd; infer_instance
theorem is_eq (h : T_head_Head) : head_Head_is h = some (decide (isHd h)) := by
  unfold head_Head_is
  by_cases h1 : 1 ≤ h.1
  · rw [if_t (decide_eq_true h1), Option.bind_some]
    by_cases h2 : h.1 < 2147483648
    · rw [if_t (decide_eq_true h2), Option.bind_some]
      by_cases h3 : 1 ≤ h.2.1
      · rw [if_t (decide_eq_true h3), Option.bind_some]
        refine congrArg some (decide_eq_decide.2 ?_)
        unfold isHd
        omega
      · rw [if_f (by simpa using h3), Option.bind_some, decide_eq_false (fun hc => by unfold isHd at hc; omega)]
    · rw [if_f (by simpa using h2), Option.bind_some, if_f (by decide), Option.bind_some, decide_eq_false (fun hc => by unfold isHd at hc; omega)]
  · rw [if_f (by simpa using h1), Option.bind_some, if_f (by decide), Option.bind_some, if_f (by decide), Option.bind_some, decide_eq_false (fun hc => by unfold isHd at hc; omega)]
theorem ris_eq (h : T_rolodexref17_Head) : rolodexref17_Is h = some (decide (isHd h)) := by
  unfold rolodexref17_Is
  by_cases h1 : 1 ≤ h.1
  · rw [if_t (decide_eq_true h1), Option.bind_some]
    by_cases h2 : h.1 ≤ 2147483647
    · rw [if_t (decide_eq_true h2), Option.bind_some]
      by_cases h3 : 1 ≤ h.2.1
      · rw [if_t (decide_eq_true h3), Option.bind_some]
        refine congrArg some (decide_eq_decide.2 ?_)
        unfold isHd
        omega
      · rw [if_f (by simpa using h3), Option.bind_some, decide_eq_false (fun hc => by unfold isHd at hc; omega)]
    · rw [if_f (by simpa using h2), Option.bind_some, if_f (by decide), Option.bind_some, decide_eq_false (fun hc => by unfold isHd at hc; omega)]
  · rw [if_f (by simpa using h1), Option.bind_some, if_f (by decide), Option.bind_some, if_f (by decide), Option.bind_some, decide_eq_false (fun hc => by unfold isHd at hc; omega)]
def encS (h : T_head_Head) : List (BitVec 8) := ((be (BitVec.ofNat 32 h.1.toNat) 4 ++ be (BitVec.ofNat 32 h.2.1.toNat) 4) ++ h.2.2.1.toList) ++ h.2.2.2.toList
theorem encS_len (h : T_head_Head) : (encS h).length = 72 := by simp [encS, be_len]
theorem encode_eq (h : T_head_Head) : head_Encode h = some (if isHd h then (encS h, 0) else ([], 1)) := by
  unfold head_Encode
  rw [bind_some' (is_eq h)]
  by_cases hh : isHd h
  · rw [if_pos hh, if_f (by rw [decide_eq_true hh]; decide)]
    unfold isHd at hh
    rw [show h.1 = ((h.1.toNat : Nat) : Int) by omega, show h.2.1 = ((h.2.1.toNat : Nat) : Int) by omega, ofInt32, ofInt32, bind_some' (wU32_eq [] (by simp) _), bind_some' (wU32_eq _ (by simp [be_len]) _), bind_some' (wPlain_eq _ _ (by simp [be_len])), bind_some' (wPlain_eq _ _ (by simp [be_len])), bind_some' (wOut_eq _ (by simp [be_len]))]
    rfl
  · rw [if_neg hh, if_t (by rw [decide_eq_false hh]; rfl)]
theorem rencode_eq (h : T_rolodexref17_Head) : rolodexref17_Encode h = some (if isHd h then (encS h, 0) else ([], 1)) := by
  unfold rolodexref17_Encode
  rw [bind_some' (ris_eq h)]
  by_cases hh : isHd h
  · rw [if_pos hh, if_f (by rw [decide_eq_true hh]; decide)]
    unfold isHd at hh
    rw [show h.1 = ((h.1.toNat : Nat) : Int) by omega, show h.2.1 = ((h.2.1.toNat : Nat) : Int) by omega, bind_some' (rNum4 _), bind_some' (rNum4 _), if_t (hap_ok (by simp [be_len])), if_t (hap_ok (by simp [be_len])), if_t (hap_ok (by simp [be_len]))]
    rfl
  · rw [if_neg hh, if_t (by rw [decide_eq_false hh]; rfl)]
def zHd : T_head_Head := (0, 0, Vector.replicate 32 (0#8), Vector.replicate 32 (0#8))
theorem awake17 : rolodexlaw17_awake = some true := by
  unfold rolodexlaw17_awake
  have h := encode_eq ((1 : Int), (1 : Int), Vector.replicate 32 (0#8), Vector.replicate 32 (0#8))
  rw [if_pos (by unfold isHd; exact ⟨⟨by decide, by decide⟩, ⟨by decide, by decide⟩⟩)] at h
  rw [Option.bind_some, bind_some' h]
  simp only []
  rw [encS_len, if_t (by simp), Option.bind_some]
  rfl
end Go.Sl.Pu
