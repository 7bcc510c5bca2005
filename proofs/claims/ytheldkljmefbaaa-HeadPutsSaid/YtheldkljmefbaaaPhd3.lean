import Derived.Test.YtheldkljmefbaaaPhd1
set_option linter.unusedSimpArgs false
set_option linter.unusedVariables false
set_option maxRecDepth 20000
/-! Signed heads: put and taken. -/
namespace Go.Sl.Pu
open Go.Sl Go.Sl.M
attribute [local irreducible] w64 val hat n4 be
/-- The number in two bytes. -/
def n2 (b : List (BitVec 8)) (i : Nat) : Nat := (val ((b.drop i).take 2)).toNat
theorem n2_lt (b : List (BitVec 8)) (i : Nat) : n2 b i < 65536 := by
  have := val_lt ((b.drop i).take 2) 2 (by simp; omega) (by omega)
  unfold n2
  have h32 : (2 : Nat) ^ (8 * 2) = 65536 := by decide
  omega
theorem val_two (n : Nat) (h : n < 65536) : (val (be (BitVec.ofNat 64 n) 2)).toNat = n := by
  with_unfolding_all
  have e : be (BitVec.ofNat 64 n) 2 = [((BitVec.ofNat 64 n) >>> 8).setWidth 8, (BitVec.ofNat 64 n).setWidth 8] := by simp [be, List.range_succ]
  rw [e]
  unfold val
  simp only [List.foldl_cons, List.foldl_nil, BitVec.toNat_add, BitVec.toNat_mul, BitVec.toNat_setWidth, BitVec.toNat_ofNat, BitVec.toNat_ushiftRight, Nat.shiftRight_eq_div_pow]
  omega
theorem n2_mid (A B : List (BitVec 8)) (x i : Nat) (hx : x < 65536) (hA : A.length = i) : n2 (A ++ (be (BitVec.ofNat 64 x) 2 ++ B)) i = x := by
  unfold n2
  rw [← hA, List.drop_left, List.take_append_of_le_length (by rw [be_len]; exact Nat.le_refl _), List.take_of_length_le (by rw [be_len]; exact Nat.le_refl _), val_two x hx]
theorem ofInt64h (n : Nat) : BitVec.ofInt 64 (n : Int) = BitVec.ofNat 64 n := by apply BitVec.eq_of_toNat_eq; simp
def isSd (s : T_head_Signed) : Prop := isHd s.1 ∧ s.2.length ≤ 8192
instance (s : T_head_Signed) : Decidable (isSd s) := by unfold isSd; infer_instance
/-- The bytes of a signed head. -/
def wtS (s : T_head_Signed) : List (BitVec 8) := (encS s.1 ++ be (BitVec.ofNat 64 s.2.length) 2) ++ s.2
theorem wtS_len (s : T_head_Signed) : (wtS s).length = 74 + s.2.length := by unfold wtS; rw [List.length_append, List.length_append, encS_len, be_len]
theorem hput_eq (s : T_head_Signed) (hs : s.2.length ≤ 1000000) : ∃ b, head_Put ([], false) s = some (b, !decide (isSd s)) ∧ (isSd s → b = wtS s) := by
  unfold head_Put
  rw [bind_some' (encode_eq _)]
  by_cases hh : isHd s.1
  · have hp : wire_Writer_Plain (([] : List (BitVec 8)), false) (encS s.1) = some (encS s.1, false) := by
      rw [wPlain_eq [] _ (by rw [encS_len]; simp), List.nil_append]
    rw [if_pos hh, if_f (by simp), bind_some' hp]
    simp only []
    by_cases hl : s.2.length ≤ 8192
    · refine ⟨wtS s, ?_, fun _ => rfl⟩
      have hw : wire_Writer_String (encS s.1, false) s.2 = some (wtS s, false) := by
        unfold wire_Writer_String wire_Writer_within
        simp only []
        have hn : wire_Writer_number (encS s.1, false) (BitVec.ofNat 64 s.2.length) (2 : Int) = _ := wnumber_eq (encS s.1) (by rw [encS_len]; omega) (BitVec.ofNat 64 s.2.length) 2 (by omega)
        rw [if_f (by rw [decide_eq_true_eq]; omega), Option.bind_some, if_f (by rw [decide_eq_true_eq]; omega), Option.bind_some]
        simp only [Bool.not_false]
        rw [if_t trivial, ofInt64h, bind_some' hn, bind_some' (wPlain_eq _ _ (by rw [List.length_append, encS_len, be_len]; omega))]
        rfl
      rw [bind_some' hw, decide_eq_true (show isSd s from ⟨hh, hl⟩)]
      rfl
    · refine ⟨encS s.1, ?_, fun hc => absurd hc.2 hl⟩
      have hw : wire_Writer_String (encS s.1, false) s.2 = some (encS s.1, true) := by
        unfold wire_Writer_String wire_Writer_within
        simp only []
        rw [if_f (by rw [decide_eq_true_eq]; omega), Option.bind_some, if_t (by rw [decide_eq_true_eq]; omega), Option.bind_some, if_f (by simp)]
      rw [bind_some' hw, decide_eq_false (fun hc : isSd s => hl hc.2)]
      rfl
  · refine ⟨[], ?_, fun hc => absurd hc.1 hh⟩
    have hw : wire_Writer_U8 (([] : List (BitVec 8)), false) (-1 : Int) = some ([], true) := by
      unfold wire_Writer_U8 wire_Writer_within
      simp only []
      rw [if_t (by simp), Option.bind_some, if_t rfl, Option.bind_some, if_f (by simp)]
    rw [if_neg hh, if_t (by simp), bind_some' hw, decide_eq_false (fun hc : isSd s => hh hc.1)]
    rfl
theorem rbytes_eq (s : T_rolodexref17_Signed) (hs : s.2.length ≤ 1000000) : rolodexref17_Bytes s = some (if isSd s then (wtS s, true) else ([], false)) := by
  unfold rolodexref17_Bytes
  rw [bind_some' (rencode_eq _)]
  by_cases hh : isHd s.1
  · rw [if_pos hh, if_f (by simp), Option.bind_some]
    by_cases hl : s.2.length ≤ 8192
    · have hn : rolodexref01_Number (BitVec.ofInt 64 (s.2.length : Int)) (2 : Int) = some (be (BitVec.ofNat 64 s.2.length) 2) := by
        rw [ofInt64h]; exact number_eq _ 2 (by omega)
      rw [if_f (by rw [decide_eq_true_eq]; omega), bind_some' hn, if_t (hap_ok (by rw [encS_len, be_len]; omega)), if_t (hap_ok (by rw [List.length_append, encS_len, be_len]; omega)), if_pos (show isSd s from ⟨hh, hl⟩)]
      rfl
    · rw [if_t (by rw [decide_eq_true_eq]; omega), if_neg (fun hc : isSd s => hl hc.2)]
  · rw [if_neg hh, if_t (by simp), Option.bind_some, if_t rfl, if_neg (fun hc : isSd s => hh hc.1)]
/-- What lies at the front of bytes as a signed head. -/
def okT (b : List (BitVec 8)) : Prop := 74 ≤ b.length ∧ isHd (decS (b.take 72)) ∧ n2 b 72 ≤ 8192 ∧ 74 + n2 b 72 ≤ b.length
instance (b : List (BitVec 8)) : Decidable (okT b) := by unfold okT; infer_instance
def zSd : T_head_Signed := (zHd, [])
def sdT (b : List (BitVec 8)) : T_head_Signed := (decS (b.take 72), (b.drop 74).take (n2 b 72))
theorem htake_no (b : List (BitVec 8)) (hb : b.length ≤ 1000000) (hk : ¬ okT b) : ∃ b', head_Take (b, false) = some ((b', true), zSd) := by
  unfold head_Take
  by_cases h72 : 72 ≤ b.length
  · have r1 : wire_Reader_Plain (b, false) (72 : Int) = some ((b.drop 72, false), b.take 72) := rPlain_eq b 72 h72
    have hl : (b.take 72).length = 72 := by rw [List.length_take]; omega
    have hd := decode_eq (b.take 72) (by rw [hl]; omega)
    rw [bind_some' r1]
    simp only []
    by_cases hh : isHd (decS (b.take 72))
    · rw [if_pos ⟨hl, hh⟩] at hd
      rw [bind_some' hd, if_f (by simp)]
      have hs : wire_Reader_String (b.drop 72, false) (8192 : Int) = some ((b.drop 72, true), []) := by
        unfold wire_Reader_String
        simp only []
        by_cases h74 : 74 ≤ b.length
        · have hp : wire_Reader_peek (b.drop 72, false) (2 : Int) = some (val ((b.drop 72).take 2), true) := peek_eq (b.drop 72) 2 (by omega) (by rw [List.length_drop]; omega)
          have hn := n2_lt b 72
          have hv : w64 ((val ((b.drop 72).take 2)).toNat : Int) = (n2 b 72 : Int) := by
            show w64 ((n2 b 72 : Nat) : Int) = _
            rw [w64_id (by omega) (by omega)]
          have hc : decide ((8192#64) < val ((b.drop 72).take 2)) = decide (8192 < n2 b 72) := by
            unfold n2
            simp only [decide_eq_decide, BitVec.lt_def]
            rfl
          have hL : wire_Reader_Left (b.drop 72, false) = some ((b.drop 72).length : Int) := rfl
          have hsp : wire_Reader_spoil (b.drop 72, false) = some (b.drop 72, true) := rfl
          rw [bind_some' hp]
          simp only []
          rw [hv, hc, if_f (by simp), Option.bind_some]
          clear hv hc
          by_cases h8 : 8192 < n2 b 72
          · rw [if_t (by rw [decide_eq_true_eq]; omega), Option.bind_some, if_t rfl, Option.bind_some, if_t rfl, bind_some' hsp]
          · rw [if_f (by rw [decide_eq_true_eq]; omega), Option.bind_some, if_f (by rw [decide_eq_true_eq]; exact h8), bind_some' hL, Option.bind_some, w64_id (n := ((b.drop 72).length : Int) - 2) (by rw [List.length_drop]; omega) (by rw [List.length_drop]; omega), if_t (by
              rw [decide_eq_true_eq, List.length_drop]
              unfold okT at hk
              have : ¬ (74 + n2 b 72 ≤ b.length) := fun hc => hk ⟨h74, hh, by omega, hc⟩
              omega), bind_some' hsp]
        · have hp : wire_Reader_peek (b.drop 72, false) (2 : Int) = some (0#64, false) := peek_short (b.drop 72) 2 (by rw [List.length_drop]; omega)
          have hsp : wire_Reader_spoil (b.drop 72, false) = some (b.drop 72, true) := rfl
          rw [bind_some' hp]
          simp only []
          rw [if_t (by simp), Option.bind_some, if_t rfl, Option.bind_some, if_t rfl, Option.bind_some, if_t rfl, bind_some' hsp]
      refine ⟨b.drop 72, ?_⟩
      rw [bind_some' hs]
      simp only []
      have hF : wire_Reader_Fails (b.drop 72, true) = some true := rfl
      rw [bind_some' hF, if_t rfl, Option.bind_some]
      rfl
    · refine ⟨b.drop 72, ?_⟩
      rw [if_neg (fun hc => hh hc.2)] at hd
      rw [bind_some' hd, if_t (by simp), bind_some' (rPlain_short _ (-1 : Int) (Or.inl (by omega))), Option.bind_some]
      rfl
  · refine ⟨b, ?_⟩
    rw [bind_some' (rPlain_short b (72 : Int) (Or.inr (by omega)))]
    simp only []
    have hd := decode_eq [] (by simp)
    rw [if_neg (fun hc => by simp at hc)] at hd
    rw [bind_some' hd, if_t (by simp), bind_some' (rPlain_failed _ _), Option.bind_some]
    rfl
theorem htake_eq (b : List (BitVec 8)) (hb : b.length ≤ 1000000) (hk : okT b) : head_Take (b, false) = some ((b.drop (74 + n2 b 72), false), sdT b) := by
  unfold head_Take
  obtain ⟨h74, hh, h8, hle⟩ := hk
  have r1 : wire_Reader_Plain (b, false) (72 : Int) = some ((b.drop 72, false), b.take 72) := rPlain_eq b 72 (by omega)
  have hl : (b.take 72).length = 72 := by rw [List.length_take]; omega
  have hd := decode_eq (b.take 72) (by rw [hl]; omega)
  rw [if_pos ⟨hl, hh⟩] at hd
  rw [bind_some' r1]
  simp only []
  rw [bind_some' hd, if_f (by simp)]
  have hs : wire_Reader_String (b.drop 72, false) (8192 : Int) = some ((b.drop (74 + n2 b 72), false), (b.drop 74).take (n2 b 72)) := by
    unfold wire_Reader_String
    simp only []
    have hp : wire_Reader_peek (b.drop 72, false) (2 : Int) = some (val ((b.drop 72).take 2), true) := peek_eq (b.drop 72) 2 (by omega) (by rw [List.length_drop]; omega)
    have hn := n2_lt b 72
    have hv : w64 ((val ((b.drop 72).take 2)).toNat : Int) = (n2 b 72 : Int) := by
      show w64 ((n2 b 72 : Nat) : Int) = _
      rw [w64_id (by omega) (by omega)]
    have hc : decide ((8192#64) < val ((b.drop 72).take 2)) = decide (8192 < n2 b 72) := by
      unfold n2
      simp only [decide_eq_decide, BitVec.lt_def]
      rfl
    have hL : wire_Reader_Left (b.drop 72, false) = some ((b.drop 72).length : Int) := rfl
    have hnum : wire_Reader_number (b.drop 72, false) (2 : Int) = some ((b.drop 74, false), val ((b.drop 72).take 2)) := by
      have := rnumber_eq (b.drop 72) 2 (by omega) (by rw [List.length_drop]; omega)
      rw [List.drop_drop] at this
      exact this
    have htk : wire_Reader_takes (b.drop 74, false) (n2 b 72 : Int) = some ((b.drop (74 + n2 b 72), false), (b.drop 74).take (n2 b 72)) := by
      have := takes_eq (b.drop 74) (n2 b 72) (by rw [List.length_drop]; omega)
      rw [List.drop_drop] at this
      exact this
    rw [bind_some' hp]
    simp only []
    rw [hv, hc, if_f (by simp), Option.bind_some]
    clear hv hc
    rw [if_f (by rw [decide_eq_true_eq]; omega), Option.bind_some, if_f (by rw [decide_eq_true_eq]; omega), bind_some' hL, Option.bind_some, w64_id (n := ((b.drop 72).length : Int) - 2) (by rw [List.length_drop]; omega) (by rw [List.length_drop]; omega), if_f (by
      rw [decide_eq_true_eq, List.length_drop]
      omega), bind_some' hnum]
    simp only []
    rw [bind_some' htk]
  rw [bind_some' hs]
  simp only []
  have hF : wire_Reader_Fails (b.drop (74 + n2 b 72), false) = some false := rfl
  rw [bind_some' hF, if_f (by decide), Option.bind_some]
  rfl
theorem rtake_eq (b : List (BitVec 8)) (hb : b.length ≤ 1000000) : rolodexref17_Take b = some (if okT b then (sdT b, b.drop (74 + n2 b 72), true) else (zSd, b, false)) := by
  unfold rolodexref17_Take
  by_cases h74 : 74 ≤ b.length
  · have hl : (b.take 72).length = 72 := by rw [List.length_take]; omega
    have s1 : lslice b 0 (72 : Int) = some (b.take 72) := by rw [lslice_at (lo := (0 : Int)) (hi := (72 : Int)) (a := 0) (b := 72) rfl rfl (by omega) (by omega), List.drop_zero]
    have s2 : lslice b (72 : Int) (74 : Int) = some ((b.drop 72).take 2) := by rw [lslice_at (lo := (72 : Int)) (hi := (74 : Int)) (a := 72) (b := 74) rfl rfl (by omega) (by omega), List.drop_take]
    have hn := n2_lt b 72
    have hv : w64 ((val ((b.drop 72).take 2)).toNat : Int) = (n2 b 72 : Int) := by
      show w64 ((n2 b 72 : Nat) : Int) = _
      rw [w64_id (by omega) (by omega)]
    rw [if_f (by clear hv; rw [decide_eq_true_eq]; omega), bind_some' s1]
    have hd := rdecode_eq (b.take 72) (by rw [hl]; clear hv; omega)
    by_cases hh : isHd (decS (b.take 72))
    · rw [if_pos ⟨hl, hh⟩] at hd
      rw [bind_some' hd, bind_some' s2, bind_some' (value_eq _ (by rw [List.length_take]; clear hv; omega)), hv]
      clear hv
      rw [if_f (by simp), Option.bind_some]
      by_cases h8 : n2 b 72 ≤ 8192
      · rw [if_f (by rw [decide_eq_true_eq]; omega), w64_id (n := (b.length : Int) - 74) (by omega) (by omega), Option.bind_some]
        by_cases hle : 74 + n2 b 72 ≤ b.length
        · have w1 : w64 ((74 : Int) + (n2 b 72 : Int)) = ((74 + n2 b 72 : Nat) : Int) := by rw [w64_id (by omega) (by omega)]; omega
          rw [w1]
          clear w1
          have s3 : lslice b (74 : Int) (((74 + n2 b 72 : Nat) : Int)) = some ((b.drop 74).take (n2 b 72)) := by rw [lslice_at (lo := (74 : Int)) (a := 74) rfl rfl (by omega) hle, List.drop_take, Nat.add_sub_cancel_left]
          have s4 : lslice b (((74 + n2 b 72 : Nat) : Int)) (b.length : Int) = some (b.drop (74 + n2 b 72)) := by rw [lslice_at rfl rfl hle (Nat.le_refl _), List.take_length]
          rw [if_f (by rw [decide_eq_true_eq]; omega), bind_some' s3, Option.bind_some, bind_some' s4, if_pos (show okT b from ⟨h74, hh, h8, hle⟩)]
          rfl
        · rw [if_t (by rw [decide_eq_true_eq]; omega), Option.bind_some, if_neg (fun hc : okT b => hle hc.2.2.2)]
          rfl
      · rw [if_t (by rw [decide_eq_true_eq]; omega), Option.bind_some, if_t rfl, Option.bind_some, if_neg (fun hc : okT b => h8 hc.2.2.1)]
        rfl
    · rw [if_neg (fun hc => hh hc.2)] at hd
      rw [bind_some' hd, bind_some' s2, bind_some' (value_eq _ (by rw [List.length_take]; clear hv; omega)), hv]
      clear hv
      rw [if_t (by simp), Option.bind_some, if_t rfl, Option.bind_some, if_t rfl, Option.bind_some, if_neg (fun hc : okT b => hh hc.2.1)]
      rfl
  · rw [if_t (by rw [decide_eq_true_eq]; omega), Option.bind_some, if_neg (fun hc : okT b => h74 hc.1)]
    rfl
theorem rsame17_eq (a b : T_rolodexref17_Signed) (ha : a.2.length ≤ 4294967296) : rolodexref17_Same a b = some (decide (a = b)) := by
  unfold rolodexref17_Same
  obtain ⟨a1, a2⟩ := a
  obtain ⟨b1, b2⟩ := b
  simp only [] at ha ⊢
  by_cases h1 : a1 = b1
  · rw [if_t (decide_eq_true h1), bind_some' (same_eq _ _ ha), Option.bind_some]
    simp [h1]
  · rw [if_f (by simpa using h1), Option.bind_some]
    simp [h1]
theorem wtS_ok (s : T_head_Signed) (hs : isSd s) : okT (wtS s) ∧ sdT (wtS s) = s ∧ (wtS s).drop (74 + n2 (wtS s) 72) = [] := by
  obtain ⟨hh, hl⟩ := hs
  have hlen := wtS_len s
  have e1 : (wtS s).take 72 = encS s.1 := by unfold wtS; rw [List.append_assoc, List.take_left' (encS_len _)]
  have e2 : n2 (wtS s) 72 = s.2.length := by
    have := n2_mid (encS s.1) s.2 s.2.length 72 (by omega) (encS_len _)
    unfold wtS
    rw [List.append_assoc]
    exact this
  have e3 : (wtS s).drop 74 = s.2 := by unfold wtS; rw [List.drop_left' (by rw [List.length_append, encS_len, be_len])]
  have e4 := dec_enc s.1 hh []
  rw [List.append_nil] at e4
  refine ⟨⟨by omega, by rw [e1, e4]; exact hh, by omega, by omega⟩, ?_, ?_⟩
  · unfold sdT
    rw [e1, e2, e3, e4, List.take_length]
  · rw [e2, List.drop_eq_nil_of_le (by omega)]
theorem headPuts (s : T_rolodexref17_Signed) (b : List (BitVec 8)) : rolodexlaw17_HeadPuts s b = some true := by
  unfold rolodexlaw17_HeadPuts
  rw [bind_some' awake17, if_f (by decide), Option.bind_some]
  by_cases hs : 9000 < s.2.length
  · rw [if_t (by rw [decide_eq_true_eq]; omega), Option.bind_some, if_t rfl, bind_some' awake17]
  · rw [if_f (by rw [decide_eq_true_eq]; omega), Option.bind_some]
    by_cases hb : 9000 < b.length
    · rw [if_t (by rw [decide_eq_true_eq]; omega), bind_some' awake17]
    · rw [if_f (by rw [decide_eq_true_eq]; omega), Option.bind_some]
      obtain ⟨p, hp, hpw⟩ := hput_eq s (by omega)
      have hp' : head_Put ([], false) (s.1, s.2) = _ := hp
      have hlen := wtS_len s
      rw [bind_some' hp']
      simp only []
      have hO : ∃ q, wire_Writer_Out (p, !decide (isSd s)) = some ((p, !decide (isSd s)), q, if isSd s then (0 : Int) else 4) ∧ q = (if isSd s then wtS s else []) := by
        by_cases h : isSd s
        · rw [decide_eq_true h, if_pos h, if_pos h, hpw h]
          exact ⟨wtS s, wOut_eq _ (by omega), rfl⟩
        · rw [decide_eq_false h, if_neg h, if_neg h]
          exact ⟨[], by unfold wire_Writer_Out; rw [if_t (by simp)], rfl⟩
      obtain ⟨q, hq, rfl⟩ := hO
      have hql : (if isSd s then wtS s else ([] : List (BitVec 8))).length ≤ 1000000 := by
        split
        · omega
        · simp
      rw [bind_some' hq, bind_some' (rbytes_eq s (by omega))]
      simp only []
      have e1 : (decide ((if isSd s then (0 : Int) else 4) = (0 : Int)) == (if isSd s then (wtS s, true) else ([], false)).2) = true := by
        by_cases h : isSd s
        · rw [if_pos h, if_pos h]; simp
        · rw [if_neg h, if_neg h]; simp
      have e2 : (if isSd s then (wtS s, true) else ([], false)).1 = (if isSd s then wtS s else ([] : List (BitVec 8))) := by
        by_cases h : isSd s
        · rw [if_pos h, if_pos h]
        · rw [if_neg h, if_neg h]
      rw [e1, e2, if_f (by simp), bind_some' (same_eq _ _ (by omega)), Option.bind_some, if_f (by simp), bind_some' (rNew_eq b (by omega))]
      simp only []
      have hT : ∃ b' : List (BitVec 8), head_Take (b, false) = some ((b', !decide (okT b)), (if okT b then sdT b else zSd)) ∧ (okT b → b' = b.drop (74 + n2 b 72)) := by
        by_cases h : okT b
        · refine ⟨_, ?_, fun _ => rfl⟩
          rw [htake_eq b (by omega) h, decide_eq_true h, if_pos h]; rfl
        · obtain ⟨b', hb'⟩ := htake_no b (by omega) h
          refine ⟨b', ?_, fun hc => absurd hc h⟩
          rw [hb', decide_eq_false h, if_neg h]; rfl
      obtain ⟨b', hb', hbe⟩ := hT
      rw [bind_some' hb', bind_some' (rtake_eq b (by omega)), Option.bind_some]
      have hF : wire_Reader_Fails (b', !decide (okT b)) = some (!decide (okT b)) := rfl
      have hL : wire_Reader_Left (b', !decide (okT b)) = some (b'.length : Int) := rfl
      have sl : (if okT b then sdT b else zSd).2.length ≤ 4294967296 := by
        split
        · show ((b.drop 74).take (n2 b 72)).length ≤ _
          rw [List.length_take, List.length_drop]; omega
        · simp [zSd]
      have f1 : (if okT b then (sdT b, b.drop (74 + n2 b 72), true) else (zSd, b, false)).1 = (if okT b then sdT b else zSd) := by
        by_cases h : okT b
        · rw [if_pos h, if_pos h]
        · rw [if_neg h, if_neg h]
      have f2 : (if okT b then (sdT b, b.drop (74 + n2 b 72), true) else (zSd, b, false)).2.2 = decide (okT b) := by
        by_cases h : okT b
        · rw [if_pos h, decide_eq_true h]
        · rw [if_neg h, decide_eq_false h]
      simp only []
      rw [f1, f2, show ((if okT b then sdT b else zSd).1, (if okT b then sdT b else zSd).2) = (if okT b then sdT b else zSd) from rfl, bind_some' (rsame17_eq _ _ sl), if_f (by simp), bind_some' hF, Option.bind_some]
      have g1 : ((!decide (okT b)) == decide (okT b)) = false := by cases decide (okT b) <;> rfl
      rw [g1, if_f (by decide)]
      have fin : (if (!(if isSd s then (wtS s, true) else (([] : List (BitVec 8)), false)).2) = true then some true else
          Option.bind (wire_New (if isSd s then wtS s else ([] : List (BitVec 8)))) fun r14 =>
          Option.bind (head_Take (r14.1, r14.2)) fun r15 =>
          Option.bind (wire_Reader_Done (r15.1.1, r15.1.2)) fun r16 =>
          Option.bind (if (r16) = true then (some (decide (r15.2.1 = s.1))) else (some false)) fun y7 =>
          Option.bind (if (y7) = true then (Option.bind (rolodexref01_Same r15.2.2 s.2) fun r17 => some r17) else (some false)) fun y8 =>
          some y8) = some true := by
        by_cases h : isSd s
        · obtain ⟨w1, w2, w3⟩ := wtS_ok s h
          rw [if_pos h, if_pos h, if_f (by simp), bind_some' (rNew_eq _ (by omega))]
          simp only []
          have hD : wire_Reader_Done (([] : List (BitVec 8)), false) = some true := rfl
          rw [bind_some' (htake_eq _ (by omega) w1), w2, w3]
          simp only []
          rw [bind_some' hD, if_t rfl, Option.bind_some, if_t (by simp), bind_some' (same_eq _ _ (by omega)), Option.bind_some, decide_eq_true rfl]
        · rw [if_neg h, if_t (by simp)]
      by_cases h : okT b
      · rw [decide_eq_true h, if_t rfl, show wire_Reader_Left (b', !true) = some (b'.length : Int) from rfl, Option.bind_some, hbe h, if_pos h]
        rw [Option.bind_some, Option.bind_some, if_f (by simp)]
        exact fin
      · rw [decide_eq_false h, if_f (by decide), Option.bind_some, Option.bind_some, if_f (by decide)]
        exact fin
end Go.Sl.Pu
