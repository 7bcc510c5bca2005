import Derived.Test.YtdpffbhgkldphaaDoorPlm3
import Derived.Test.YtdpffbhgkldphaaDoorPl4a
set_option linter.unusedSimpArgs false
set_option linter.unusedVariables false
namespace Go.Sl.Pu
open Go.Sl Go.Sl.M
theorem lmotsPublic (k : T_rolodexlaw04_Key) : rolodexlaw04_LmotsPublic k = some true := by
  obtain ⟨kind, id, q, seed⟩ := k
  unfold rolodexlaw04_LmotsPublic
  by_cases hk : 1 ≤ kind ∧ kind ≤ 4
  · obtain ⟨k, rfl, hkk⟩ := kind_of hk
    simp only []
    rw [bind_some' (public_eq hkk id q seed), bind_some' (rpublic_eq hkk id q seed), bind_some' awake04, if_t rfl]
    simp
  · simp only []
    rw [bind_some' (public_none hk id q seed), bind_some' (rpublic_none hk id q seed), bind_some' awake04, if_t rfl]
    simp
theorem lmotsSigns (k : T_rolodexlaw04_Key) (msg : List (BitVec 8)) : rolodexlaw04_LmotsSigns k msg = some true := by
  obtain ⟨kind, id, q, seed⟩ := k
  unfold rolodexlaw04_LmotsSigns
  rw [bind_some' awake04, if_f (by simp), Option.bind_some]
  by_cases hm : 500 < msg.length
  · rw [if_t (by simp; omega), bind_some' awake04]
  · rw [if_f (by simp; omega)]
    by_cases hk : 1 ≤ kind ∧ kind ≤ 4
    · obtain ⟨k, rfl, hkk⟩ := kind_of hk
      simp only []
      have hc := chainsN_le hkk
      rw [bind_some' (sign_eq hkk id q seed msg (by omega)), bind_some' (rsign_eq hkk id q seed msg (by omega)), if_t (by simp), bind_some' (same_eq _ _ (by rw [sigk_len]; unfold sizeN; omega))]
      simp
    · simp only []
      rw [bind_some' (sign_none hk id q seed msg), bind_some' (rsign_none hk id q seed msg), if_t (by simp), bind_some' (same_eq _ _ (by simp))]
      simp
theorem lmotsRecovers (k : T_rolodexlaw04_Key) (msg sig : List (BitVec 8)) : rolodexlaw04_LmotsRecovers k msg sig = some true := by
  obtain ⟨kind, id, q, seed⟩ := k
  unfold rolodexlaw04_LmotsRecovers
  rw [bind_some' awake04, if_f (by simp), Option.bind_some]
  by_cases hm : 500 < msg.length
  · rw [if_t (by simp; omega), Option.bind_some, if_t rfl, bind_some' awake04]
  · rw [if_f (by simp; omega), Option.bind_some]
    by_cases hs : 9000 < sig.length
    · rw [if_t (by simp; omega), bind_some' awake04]
    · rw [if_f (by simp; omega)]
      simp only []
      by_cases h : ∃ k, IsSig k sig
      · obtain ⟨k, hk⟩ := h
        rw [bind_some' (recover_eq id q msg sig (by omega) hk), bind_some' (rrecover_eq id q msg sig (by omega) hk)]
        simp
      · have h' : ∀ k, ¬ IsSig k sig := fun k hk => h ⟨k, hk⟩
        rw [bind_some' (recover_no id q msg sig (by omega) h'), bind_some' (rrecover_no id q msg sig (by omega) h')]
        simp
/-! ## What was signed leads to the public key -/
theorem take4 (k : Nat) (id : T_api_ID) (q : BitVec 32) (seed : T_api_Hash) (msg : List (BitVec 8)) : (sigk k id q seed msg).take 4 = be (BitVec.ofNat 32 k) 4 := by
  unfold sigk
  rw [List.append_assoc, List.take_append_of_le_length (by rw [be_len]; exact Nat.le_refl _), List.take_of_length_le (by rw [be_len]; exact Nat.le_refl _)]
theorem sigk_sig {k : Nat} (hk : IsKind k) (id : T_api_ID) (q : BitVec 32) (seed : T_api_Hash) (msg : List (BitVec 8)) : IsSig k (sigk k id q seed msg) := by
  refine ⟨hk, sigk_len id q seed msg, ?_⟩
  rw [take4, val_four]
  rcases hk with rfl | rfl | rfl | rfl <;> rfl
theorem sigk_salt (k : Nat) (id : T_api_ID) (q : BitVec 32) (seed : T_api_Hash) (msg : List (BitVec 8)) : ((sigk k id q seed msg).drop 4).take 32 = (saltv id q seed).toList := by
  unfold sigk
  rw [List.append_assoc, List.drop_left' (be_len _ _), List.take_left' (by simp)]
theorem cat_hat (pre : List (BitVec 8)) (n : Nat) (f : Nat → T_api_Hash) (i : Nat) (hi : i < n) (p : Nat) (hp : pre.length = p) : hat (pre ++ cat n f) (p + 32 * i) = f i := by
  apply Vector.toList_inj.1
  rw [hat_toList _ _ (by rw [List.length_append, cat_len, hp]; omega)]
  have e : pre ++ cat n f = (pre ++ cat i f) ++ ((f i).toList ++ ((List.range (n - (i + 1))).flatMap fun j => (f (i + 1 + j)).toList)) := by
    rw [List.append_assoc]
    congr 1
    have hn : n = i + (1 + (n - (i + 1))) := by omega
    conv => lhs; rw [hn]
    unfold cat
    rw [List.range_add, List.flatMap_append, List.range_add, List.map_append, List.flatMap_append]
    simp [List.flatMap_map, Nat.add_assoc]
  rw [e, List.drop_left' (by rw [List.length_append, cat_len, hp]), List.take_left' (by simp)]
theorem recov_sigk {k : Nat} (hk : IsKind k) (id : T_api_ID) (q : BitVec 32) (seed : T_api_Hash) (msg : List (BitVec 8)) : recov k id q msg (sigk k id q seed msg) = pubk k id q seed := by
  unfold recov pubk
  rw [sigk_salt]
  refine congrArg (und id q 32896) (cat_congr fun i hi => ?_)
  have hd := dgt_le hk (und id q 33153 ((saltv id q seed).toList ++ msg)) i
  have e : hat (sigk k id q seed msg) (36 + 32 * i) = steps id q i 0 (dgt (sdig k id q (saltv id q seed).toList msg) i) (begn id q i seed) := by
    unfold sigk
    exact cat_hat _ _ (fun i => steps id q i 0 (dgt (sdig k id q (saltv id q seed).toList msg) i) (begn id q i seed)) i hi 36 (by simp [be_len])
  rw [e]
  have hd' : dgt (sdig k id q (saltv id q seed).toList msg) i ≤ mostN k := hd
  have := steps_add id q i 0 (dgt (sdig k id q (saltv id q seed).toList msg) i) (mostN k - dgt (sdig k id q (saltv id q seed).toList msg) i) (begn id q i seed)
  rw [Nat.zero_add] at this
  rw [← this]; congr 1; omega
theorem lmotsRight (k : T_rolodexlaw04_Key) (msg : List (BitVec 8)) : rolodexlaw04_LmotsRight k msg = some true := by
  obtain ⟨kind, id, q, seed⟩ := k
  unfold rolodexlaw04_LmotsRight
  rw [bind_some' awake04, if_f (by simp), Option.bind_some]
  by_cases hm : 500 < msg.length
  · rw [if_t (by simp; omega), bind_some' awake04]
  · rw [if_f (by simp; omega), if_t (by simp [AP]; omega)]
    simp only [List.nil_append]
    by_cases hk : 1 ≤ kind ∧ kind ≤ 4
    · obtain ⟨k, rfl, hkk⟩ := kind_of hk
      have hc := chainsN_le hkk
      rw [bind_some' (public_eq hkk id q seed), bind_some' (sign_eq hkk id q seed msg (by omega)), bind_some' (sign_eq hkk id q seed msg (by omega)), if_f (by simp)]
      rw [bind_some' (recover_eq id q msg _ (by omega) (sigk_sig hkk id q seed msg)), if_t (by simp), recov_sigk hkk, Option.bind_some, if_t (by simp), Option.bind_some, if_t rfl, Option.bind_some, if_t (by simp), bind_some' (size_eq hkk), Option.bind_some, if_t (by simp [sigk_len]), bind_some' (same_eq _ _ (by rw [sigk_len]; unfold sizeN; omega)), Option.bind_some, if_t (by simp), bind_some' (same_eq _ _ (by omega))]
      simp
    · rw [bind_some' (public_none hk id q seed), bind_some' (sign_none hk id q seed msg), bind_some' (sign_none hk id q seed msg), if_t (by simp)]
      simp
theorem lmotsCuts (k : T_rolodexlaw04_Key) (msg more : List (BitVec 8)) (hb : msg.length ≤ 2000000000) : rolodexlaw04_LmotsCuts k msg more = some true := by
  obtain ⟨kind, id, q, seed⟩ := k
  unfold rolodexlaw04_LmotsCuts
  simp only []
  by_cases hk : 1 ≤ kind ∧ kind ≤ 4
  · obtain ⟨k, rfl, hkk⟩ := kind_of hk
    have hc := chainsN_le hkk
    have hc2 : 34 ≤ chainsN k := by rcases hkk with rfl | rfl | rfl | rfl <;> simp [chainsN]
    rw [bind_some' (sign_eq hkk id q seed msg (by omega)), bind_some' awake04, if_f (by simp), Option.bind_some]
    by_cases h1 : 500 < msg.length
    · rw [if_t (by simp; omega), Option.bind_some, if_t rfl, Option.bind_some, if_t rfl, Option.bind_some, if_t rfl, bind_some' awake04]
    · rw [if_f (by simp; omega), Option.bind_some]
      by_cases h2 : 100 < more.length
      · rw [if_t (by simp; omega), Option.bind_some, if_t rfl, Option.bind_some, if_t rfl, bind_some' awake04]
      · rw [if_f (by simp; omega), Option.bind_some]
        by_cases h3 : more.length = 0
        · rw [if_t (decide_eq_true (by omega)), Option.bind_some, if_t rfl, bind_some' awake04]
        · rw [if_f (by rw [decide_eq_true_eq]; omega), Option.bind_some, if_f (by simp)]
          have hl := sigk_len (k := k) id q seed msg
          have hsz : sizeN k = 36 + 32 * chainsN k := rfl
          simp only [List.nil_append]
          rw [if_t (by simp [AP]; omega), if_t (by simp [AP]; omega), if_t (by simp [AP]; omega), if_t (by omega)]
          have hv := (sigk_sig hkk id q seed msg).2.2
          have no1 : ∀ k', ¬ IsSig k' (sigk k id q seed msg ++ more) := by
            rintro k' ⟨a1, a2, a3⟩
            rw [List.take_append_of_le_length (by omega), hv] at a3
            subst a3
            rw [List.length_append] at a2; omega
          have no2 : ∀ k', ¬ IsSig k' ((sigk k id q seed msg).take ((sigk k id q seed msg).length - more.length)) := by
            rintro k' ⟨a1, a2, a3⟩
            rw [List.take_take, Nat.min_eq_left (by omega), hv] at a3
            subst a3
            rw [List.length_take] at a2; omega
          rw [bind_some' (recover_no id q msg _ (by rw [List.length_append]; omega) no1)]
          rw [w64_id (n := ((sigk k id q seed msg).length : Int) - (more.length : Int)) (by omega) (by omega)]
          rw [bind_some' (lslice_at (lo := 0) (a := 0) (b := (sigk k id q seed msg).length - more.length) rfl (by omega) (by omega) (by omega)), List.drop_zero]
          rw [bind_some' (recover_no id q msg _ (by rw [List.length_take]; omega) no2)]
          have hsplit : sigk k id q seed msg = [0#8, 0#8, 0#8, BitVec.ofNat 8 k] ++ (sigk k id q seed msg).drop 4 := by
            have e : be (BitVec.ofNat 32 k) 4 = [0#8, 0#8, 0#8, BitVec.ofNat 8 k] := by rcases hkk with rfl | rfl | rfl | rfl <;> decide
            have e' : (sigk k id q seed msg).take 4 = [0#8, 0#8, 0#8, BitVec.ofNat 8 k] := (take4 k id q seed msg).trans e
            exact (List.take_append_drop 4 (sigk k id q seed msg)).symm.trans (congrArg (· ++ (sigk k id q seed msg).drop 4) e')
          have no3 : ∀ k', ¬ IsSig k' ((sigk k id q seed msg).set ((3 : Int).toNat) ((BitVec.ofInt 8 (Int.tmod (k : Int) (4 : Int))) + (1#8))) := by
            rintro k' ⟨a1, a2, a3⟩
            rw [List.length_set] at a2
            have e3 : ((3 : Int).toNat) = 3 := rfl
            rw [e3, hsplit] at a3
            have e4 : (([0#8, 0#8, 0#8, BitVec.ofNat 8 k] ++ (sigk k id q seed msg).drop 4).set 3 ((BitVec.ofInt 8 (Int.tmod (k : Int) (4 : Int))) + (1#8))).take 4 = [0#8, 0#8, 0#8, (BitVec.ofInt 8 (Int.tmod (k : Int) (4 : Int))) + (1#8)] := by rfl
            rw [e4] at a3
            rw [hl] at a2
            have e5 : (val [0#8, 0#8, 0#8, (BitVec.ofInt 8 (Int.tmod (k : Int) (4 : Int))) + (1#8)]).toNat = k % 4 + 1 := by rcases hkk with rfl | rfl | rfl | rfl <;> rfl
            rw [e5] at a3
            have hne : sizeN k ≠ sizeN (k % 4 + 1) := by rcases hkk with rfl | rfl | rfl | rfl <;> decide
            rw [← a3] at a2
            exact hne a2
          rw [bind_some' (recover_no id q msg _ (by rw [List.length_set]; omega) no3)]
          simp
  · rw [bind_some' (sign_none hk id q seed msg), bind_some' awake04, if_f (by simp), Option.bind_some]
    by_cases h1 : 500 < msg.length
    · rw [if_t (by simp; omega), Option.bind_some, if_t rfl, Option.bind_some, if_t rfl, Option.bind_some, if_t rfl, bind_some' awake04]
    · rw [if_f (by simp; omega), Option.bind_some]
      by_cases h2 : 100 < more.length
      · rw [if_t (by simp; omega), Option.bind_some, if_t rfl, Option.bind_some, if_t rfl, bind_some' awake04]
      · rw [if_f (by simp; omega), Option.bind_some]
        by_cases h3 : more.length = 0
        · rw [if_t (decide_eq_true (by omega)), Option.bind_some, if_t rfl, bind_some' awake04]
        · rw [if_f (by rw [decide_eq_true_eq]; omega), Option.bind_some, if_t (by simp), bind_some' awake04]
end Go.Sl.Pu
