import Derived.Test.YtheldkljmefbaaaPhd0
set_option linter.unusedSimpArgs false
set_option linter.unusedVariables false
set_option maxRecDepth 20000
/-! Heads: their bytes, there and back. -/
namespace Go.Sl.Pu
open Go.Sl Go.Sl.M
attribute [local irreducible] w64 val hat n4 be
def isHd (h : T_head_Head) : Prop := (1 ≤ h.1 ∧ h.1 ≤ 2147483647) ∧ (1 ≤ h.2.1 ∧ h.2.1 ≤ 2147483647)
instance (h : T_head_Head) : Decidable (isHd h) := by unfold isHd; infer_instance
theorem is_eq (h : T_head_Head) : head_Head_is h = some (decide (isHd h)) := by
  unfold head_Head_is
  by_cases h1 : 1 ≤ h.1
  · rw [if_t (decide_eq_true h1), Option.bind_some]
    by_cases h2 : h.1 < 2147483648
    · rw [if_t (decide_eq_true h2), Option.bind_some]
      by_cases h3 : 1 ≤ h.2.1
      · rw [if_t (decide_eq_true h3), Option.bind_some]
        refine congrArg some (decide_eq_decide.2 ?_)
        unfold isHd
        omega
      · rw [if_f (by simpa using h3), Option.bind_some, decide_eq_false (fun hc => by unfold isHd at hc; omega)]
    · rw [if_f (by simpa using h2), Option.bind_some, if_f (by decide), Option.bind_some, decide_eq_false (fun hc => by unfold isHd at hc; omega)]
  · rw [if_f (by simpa using h1), Option.bind_some, if_f (by decide), Option.bind_some, if_f (by decide), Option.bind_some, decide_eq_false (fun hc => by unfold isHd at hc; omega)]
theorem ris_eq (h : T_rolodexref17_Head) : rolodexref17_Is h = some (decide (isHd h)) := by
  unfold rolodexref17_Is
  by_cases h1 : 1 ≤ h.1
  · rw [if_t (decide_eq_true h1), Option.bind_some]
    by_cases h2 : h.1 ≤ 2147483647
    · rw [if_t (decide_eq_true h2), Option.bind_some]
      by_cases h3 : 1 ≤ h.2.1
      · rw [if_t (decide_eq_true h3), Option.bind_some]
        refine congrArg some (decide_eq_decide.2 ?_)
        unfold isHd
        omega
      · rw [if_f (by simpa using h3), Option.bind_some, decide_eq_false (fun hc => by unfold isHd at hc; omega)]
    · rw [if_f (by simpa using h2), Option.bind_some, if_f (by decide), Option.bind_some, decide_eq_false (fun hc => by unfold isHd at hc; omega)]
  · rw [if_f (by simpa using h1), Option.bind_some, if_f (by decide), Option.bind_some, if_f (by decide), Option.bind_some, decide_eq_false (fun hc => by unfold isHd at hc; omega)]
def encS (h : T_head_Head) : List (BitVec 8) := ((be (BitVec.ofNat 32 h.1.toNat) 4 ++ be (BitVec.ofNat 32 h.2.1.toNat) 4) ++ h.2.2.1.toList) ++ h.2.2.2.toList
theorem encS_len (h : T_head_Head) : (encS h).length = 72 := by simp [encS, be_len]
theorem encode_eq (h : T_head_Head) : head_Encode h = some (if isHd h then (encS h, 0) else ([], 1)) := by
  unfold head_Encode
  rw [bind_some' (is_eq h)]
  by_cases hh : isHd h
  · rw [if_pos hh, if_f (by rw [decide_eq_true hh]; decide)]
    unfold isHd at hh
    rw [show h.1 = ((h.1.toNat : Nat) : Int) by omega, show h.2.1 = ((h.2.1.toNat : Nat) : Int) by omega, ofInt32, ofInt32, bind_some' (wU32_eq [] (by simp) _), bind_some' (wU32_eq _ (by simp [be_len]) _), bind_some' (wPlain_eq _ _ (by simp [be_len])), bind_some' (wPlain_eq _ _ (by simp [be_len])), bind_some' (wOut_eq _ (by simp [be_len]))]
    rfl
  · rw [if_neg hh, if_t (by rw [decide_eq_false hh]; rfl)]
theorem rencode_eq (h : T_rolodexref17_Head) : rolodexref17_Encode h = some (if isHd h then (encS h, 0) else ([], 1)) := by
  unfold rolodexref17_Encode
  rw [bind_some' (ris_eq h)]
  by_cases hh : isHd h
  · rw [if_pos hh, if_f (by rw [decide_eq_true hh]; decide)]
    unfold isHd at hh
    rw [show h.1 = ((h.1.toNat : Nat) : Int) by omega, show h.2.1 = ((h.2.1.toNat : Nat) : Int) by omega, bind_some' (rNum4 _), bind_some' (rNum4 _), if_t (hap_ok (by simp [be_len])), if_t (hap_ok (by simp [be_len])), if_t (hap_ok (by simp [be_len]))]
    rfl
  · rw [if_neg hh, if_t (by rw [decide_eq_false hh]; rfl)]
def zHd : T_head_Head := (0, 0, Vector.replicate 32 (0#8), Vector.replicate 32 (0#8))
def decS (b : List (BitVec 8)) : T_head_Head := ((n4 b 0 : Int), (n4 b 4 : Int), hat b 8, hat b 40)
theorem decode_eq (b : List (BitVec 8)) (hb : b.length ≤ 4000000000) : head_Decode b = some (if b.length = 72 ∧ isHd (decS b) then (decS b, 0) else (zHd, 2)) := by
  unfold head_Decode
  by_cases hl : b.length = 72
  · have r1 := rU32_at b 0 (by omega)
    have r2 := rU32_at b 4 (by omega)
    have r3 : wire_Reader_Plain (b.drop 8, false) (32 : Int) = _ := rPlain_at b 8 32 (by omega)
    have r4 : wire_Reader_Plain (b.drop 40, false) (32 : Int) = _ := rPlain_at b 40 32 (by omega)
    have e1 : (((val (List.take 4 (List.drop 0 b))).setWidth 32).toNat : Int) = (n4 b 0 : Int) := n4_w b 0
    have e2 : (((val (List.take 4 (List.drop 4 b))).setWidth 32).toNat : Int) = (n4 b 4 : Int) := n4_w b 4
    rw [if_f (by simp [hl]), bind_some' (rNew_eq b hb)]
    simp only []
    rw [show wire_Reader_U32 (b, false) = _ from r1, Option.bind_some]
    simp only []
    rw [show wire_Reader_U32 (b.drop (0 + 4), false) = _ from r2, Option.bind_some]
    simp only []
    rw [show wire_Reader_Plain (b.drop (4 + 4), false) (32 : Int) = _ from r3, Option.bind_some]
    simp only []
    rw [bind_some' (hat_eq b 8 (by omega)), show wire_Reader_Plain (b.drop (8 + 32), false) (32 : Int) = _ from r4, Option.bind_some]
    simp only []
    rw [bind_some' (hat_eq b 40 (by omega)), e1, e2, Option.bind_some, bind_some' (is_eq _)]
    by_cases hh : isHd (decS b)
    · rw [if_f (by rw [show ((n4 b 0 : Int), (n4 b 4 : Int), hat b 8, hat b 40) = decS b from rfl, decide_eq_true hh]; decide), if_pos ⟨hl, hh⟩]
      rfl
    · rw [if_t (by rw [show ((n4 b 0 : Int), (n4 b 4 : Int), hat b 8, hat b 40) = decS b from rfl, decide_eq_false hh]; rfl), Option.bind_some, if_neg (fun hc => hh hc.2)]
      rfl
  · rw [if_t (by simp; omega), Option.bind_some, if_neg (fun hc => hl hc.1)]
    rfl
theorem rdecode_eq (b : List (BitVec 8)) (hb : b.length ≤ 4000000000) : rolodexref17_Decode b = some (if b.length = 72 ∧ isHd (decS b) then (decS b, 0) else (zHd, 2)) := by
  unfold rolodexref17_Decode
  by_cases hl : b.length = 72
  · have v0 : ∀ i, rolodexref01_Value ((b.drop i).take 4) = some (val ((b.drop i).take 4)) := fun i => value_eq _ (by rw [List.length_take]; omega)
    have s3 : lslice b (8 : Int) (40 : Int) = some ((b.drop 8).take 32) := by
      rw [lslice_at (lo := (8 : Int)) (hi := (40 : Int)) (a := 8) (b := 40) rfl rfl (by omega) (by omega), List.drop_take]
    have s4 : lslice b (40 : Int) (72 : Int) = some ((b.drop 40).take 32) := by
      rw [lslice_at (lo := (40 : Int)) (hi := (72 : Int)) (a := 40) (b := 72) rfl rfl (by omega) (by omega), List.drop_take]
    rw [if_f (by simp [hl]), bind_some' (rsl4 b 0 4 0 rfl rfl (by omega)), bind_some' (v0 0), bind_some' (rsl4 b 4 8 4 rfl rfl (by omega)), bind_some' (v0 4), bind_some' s3, bind_some' (hat_eq b 8 (by omega)), bind_some' s4, bind_some' (hat_eq b 40 (by omega)), w64_n4, w64_n4, Option.bind_some, bind_some' (ris_eq _)]
    by_cases hh : isHd (decS b)
    · rw [if_f (by rw [show ((n4 b 0 : Int), (n4 b 4 : Int), hat b 8, hat b 40) = decS b from rfl, decide_eq_true hh]; decide), if_pos ⟨hl, hh⟩]
      rfl
    · rw [if_t (by rw [show ((n4 b 0 : Int), (n4 b 4 : Int), hat b 8, hat b 40) = decS b from rfl, decide_eq_false hh]; rfl), Option.bind_some, if_neg (fun hc => hh hc.2)]
      rfl
  · rw [if_t (by simp; omega), Option.bind_some, if_neg (fun hc => hl hc.1)]
    rfl
theorem dec_enc (h : T_head_Head) (hh : isHd h) (more : List (BitVec 8)) : decS (encS h ++ more) = h := by
  unfold isHd at hh
  have a1 := n4_mid [] (((be (BitVec.ofNat 32 h.2.1.toNat) 4 ++ h.2.2.1.toList) ++ h.2.2.2.toList) ++ more) h.1.toNat 0 (by omega) rfl
  have a2 := n4_mid (be (BitVec.ofNat 32 h.1.toNat) 4) ((h.2.2.1.toList ++ h.2.2.2.toList) ++ more) h.2.1.toNat 4 (by omega) (be_len _ _)
  have a3 := hat_mid (be (BitVec.ofNat 32 h.1.toNat) 4 ++ be (BitVec.ofNat 32 h.2.1.toNat) 4) (h.2.2.2.toList ++ more) h.2.2.1 8 (by rw [List.length_append, be_len, be_len])
  have a4 := hat_mid ((be (BitVec.ofNat 32 h.1.toNat) 4 ++ be (BitVec.ofNat 32 h.2.1.toNat) 4) ++ h.2.2.1.toList) more h.2.2.2 40 (by rw [List.length_append, List.length_append, be_len, be_len, Vector.length_toList])
  unfold decS encS
  simp only [List.append_assoc, List.nil_append] at a1 a2 a3 a4 ⊢
  rw [a1, a2, a3, a4]
  obtain ⟨x, y, z, w⟩ := h
  simp only [] at hh ⊢
  rw [show ((x.toNat : Nat) : Int) = x by omega, show ((y.toNat : Nat) : Int) = y by omega]
theorem be_n4 (b : List (BitVec 8)) (i : Nat) (h : i + 4 ≤ b.length) : be (BitVec.ofNat 32 (n4 b i)) 4 = (b.drop i).take 4 := by
  with_unfolding_all
  have hl : ((b.drop i).take 4).length = 4 := by rw [List.length_take, List.length_drop]; omega
  unfold n4
  generalize (b.drop i).take 4 = l at hl
  match l, hl with
  | [p, q, r, s], _ =>
    have e : (val [p, q, r, s]).toNat = ((p.toNat * 256 + q.toNat) * 256 + r.toNat) * 256 + s.toNat := by
      have hp := p.isLt
      have hq := q.isLt
      have hr := r.isLt
      have hs := s.isLt
      unfold val
      simp only [List.foldl_cons, List.foldl_nil, BitVec.toNat_add, BitVec.toNat_mul, BitVec.toNat_setWidth, BitVec.toNat_ofNat]
      omega
    rw [e]
    have hp := p.isLt
    have hq := q.isLt
    have hr := r.isLt
    have hs := s.isLt
    unfold be
    simp only [List.range_succ, List.range_zero, List.nil_append, List.map_append, List.map_cons, List.map_nil, List.cons_append]
    simp only [List.cons.injEq, and_true]
    refine ⟨?_, ?_, ?_, ?_⟩ <;> (apply BitVec.eq_of_toNat_eq; simp only [BitVec.toNat_setWidth, BitVec.toNat_ushiftRight, BitVec.toNat_ofNat, Nat.shiftRight_eq_div_pow]; omega)
theorem enc_dec (b : List (BitVec 8)) (hl : b.length = 72) (hh : isHd (decS b)) : encS (decS b) = b := by
  unfold encS decS
  simp only [Int.toNat_natCast]
  rw [be_n4 b 0 (by omega), be_n4 b 4 (by omega), hat_toList b 8 (by omega), hat_toList b 40 (by omega)]
  have e1 : b.drop 40 = (b.drop 40).take 32 := (List.take_of_length_le (by rw [List.length_drop]; omega)).symm
  rw [← e1]
  have e2 : (b.drop 8).take 32 ++ b.drop 40 = b.drop 8 := by
    have := List.take_append_drop 32 (b.drop 8)
    rw [List.drop_drop] at this
    exact this
  have e3 : (b.drop 4).take 4 ++ b.drop 8 = b.drop 4 := by
    have := List.take_append_drop 4 (b.drop 4)
    rw [List.drop_drop] at this
    exact this
  rw [List.append_assoc, e2, List.append_assoc, e3, List.drop_zero]
  exact List.take_append_drop 4 b
theorem awake17 : rolodexlaw17_awake = some true := by
  unfold rolodexlaw17_awake
  have h := encode_eq ((1 : Int), (1 : Int), Vector.replicate 32 (0#8), Vector.replicate 32 (0#8))
  rw [if_pos (by unfold isHd; exact ⟨⟨by decide, by decide⟩, ⟨by decide, by decide⟩⟩)] at h
  rw [Option.bind_some, bind_some' h]
  simp only []
  rw [encS_len, if_t (by simp), Option.bind_some]
  rfl
theorem headBack (h : T_rolodexref17_Head) (b : List (BitVec 8)) : rolodexlaw17_HeadBack h b = some true := by
  unfold rolodexlaw17_HeadBack
  rw [bind_some' awake17, if_f (by decide), Option.bind_some]
  by_cases hb : 200 < b.length
  · rw [if_t (by rw [decide_eq_true_eq]; omega), bind_some' awake17]
  · rw [if_f (by rw [decide_eq_true_eq]; omega), bind_some' (encode_eq h)]
    have rest : ∀ r : T_head_Head × Int, r = (if b.length = 72 ∧ isHd (decS b) then (decS b, 0) else (zHd, 2)) →
        (Option.bind (head_Encode r.1) fun r9 =>
         Option.bind (if (!decide (r.2 = (0 : Int))) = true then (some (decide (r.1 = (0, 0, (Vector.replicate 32 (0#8)), (Vector.replicate 32 (0#8)))))) else (some false)) fun y7 =>
         Option.bind (if (y7) = true then (some true) else (
         Option.bind (if (decide (r.2 = (0 : Int))) = true then (some (decide (r9.2 = (0 : Int)))) else (some false)) fun y9 =>
         Option.bind (if (y9) = true then (Option.bind (rolodexref01_Same r9.1 b) fun r10 => some r10) else (some false)) fun y10 =>
         some y10)) fun y8 => some y8) = some true := by
      rintro r rfl
      by_cases hc : b.length = 72 ∧ isHd (decS b)
      · have he := encode_eq (decS b)
        rw [if_pos hc.2] at he
        rw [if_pos hc]
        simp only []
        rw [bind_some' he, if_f (by simp), Option.bind_some, if_f (by decide), if_t (by simp), Option.bind_some, if_t (by simp), enc_dec b hc.1 hc.2, bind_some' (same_eq b b (by omega)), Option.bind_some, Option.bind_some, decide_eq_true rfl]
      · rw [if_neg hc]
        simp only []
        rw [bind_some' (encode_eq _), if_t (by simp), decide_eq_true (show zHd = (0, 0, Vector.replicate 32 (0#8), Vector.replicate 32 (0#8)) from rfl), Option.bind_some, if_t rfl, Option.bind_some]
    by_cases hh : isHd h
    · rw [if_pos hh, if_t (by simp), bind_some' (decode_eq _ (by show (encS h).length ≤ _; rw [encS_len]; omega))]
      have e := dec_enc h hh []
      rw [List.append_nil] at e
      simp only []
      rw [if_pos (show (encS h).length = 72 ∧ isHd (decS (encS h)) from ⟨encS_len h, by rw [e]; exact hh⟩), if_f (by simp), e, Option.bind_some, if_f (by simp), bind_some' (decode_eq b (by omega))]
      exact rest _ rfl
    · rw [if_neg hh, if_f (by simp), bind_some' (decode_eq b (by omega))]
      exact rest _ rfl
end Go.Sl.Pu
