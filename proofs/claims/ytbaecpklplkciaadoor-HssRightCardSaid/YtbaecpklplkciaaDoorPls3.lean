import Derived.Test.YtbaecpklplkciaaDoorPls2
set_option linter.unusedSimpArgs false
set_option linter.unusedVariables false
set_option maxRecDepth 20000
/-! The laws of the trees of keys. -/
namespace Go.Sl.Pu
open Go.Sl Go.Sl.M
attribute [local irreducible] sha w64 pubk und sigk ndh recov val hat
theorem awake05 : rolodexlaw05_awake = some true := by
  unfold rolodexlaw05_awake
  have h : lms_New (1 : Int) (1 : Int) (Vector.replicate 16 (0#8)) (Vector.replicate 32 (0#8)) = _ := lnew_eq (h := 1) (k := 1) (Or.inl rfl) (Or.inl rfl) _ _
  rw [bind_some' h, if_t (by simp)]
  have hk : lms_Tree_Keys (trS 1 1 (Vector.replicate 16 (0#8)) (Vector.replicate 32 (0#8))) = _ := lkeys_eq (k := 1) (Or.inl rfl) _ _
  have hp : lms_Tree_Public (trS 1 1 (Vector.replicate 16 (0#8)) (Vector.replicate 32 (0#8))) = _ := lpublic_eq (k := 1) (Or.inl rfl) _ _
  simp only []
  rw [show lms_Tree_Keys (some (((1 : Nat) : Int), ((1 : Nat) : Int), Vector.replicate 16 (0#8), Vector.replicate 32 (0#8), nodesS 1 (Vector.replicate 16 (0#8)) (Vector.replicate 32 (0#8)) (KK 1))) = _ from hk, Option.bind_some, Option.bind_some, if_t (by with_unfolding_all rfl),
    show lms_Tree_Public (some (((1 : Nat) : Int), ((1 : Nat) : Int), Vector.replicate 16 (0#8), Vector.replicate 32 (0#8), nodesS 1 (Vector.replicate 16 (0#8)) (Vector.replicate 32 (0#8)) (KK 1))) = _ from hp, Option.bind_some, pubT_len]
  rfl
theorem small_eq (h k : Int) : rolodexlaw05_small h k = some (decide (h ≤ 2 ∧ (k < 4 ∨ h ≤ 1))) := by
  unfold rolodexlaw05_small
  by_cases h1 : h ≤ 2
  · rw [if_t (decide_eq_true h1)]
    by_cases h2 : k < 4
    · rw [if_t (decide_eq_true h2), Option.bind_some, Option.bind_some, decide_eq_true ⟨h1, Or.inl h2⟩]
    · rw [if_f (by rw [decide_eq_true_eq]; exact h2), Option.bind_some, Option.bind_some]
      simp only [Option.some.injEq, decide_eq_decide]
      omega
  · rw [if_f (by rw [decide_eq_true_eq]; exact h1), Option.bind_some, decide_eq_false (fun hc => h1 hc.1)]
theorem lmsNil (q : Int) (msg : List (BitVec 8)) : rolodexlaw05_LmsNil q msg = some true := by
  unfold rolodexlaw05_LmsNil
  rw [bind_some' awake05, if_f (by decide), Option.bind_some]
  by_cases hm : 300 < msg.length
  · rw [if_t (by rw [decide_eq_true_eq]; omega), bind_some' awake05]
  · rw [if_f (by rw [decide_eq_true_eq]; omega)]
    have h1 : lms_Tree_Sign none q msg = some ([], 1) := by unfold lms_Tree_Sign; rw [if_t (by rfl)]
    have h2 : lms_Tree_Keys none = some 0 := by unfold lms_Tree_Keys; rw [if_t (by rfl)]
    have h3 : lms_Tree_Public none = some [] := by unfold lms_Tree_Public; rw [if_t (by rfl)]
    rw [bind_some' h1, if_t (by simp), Option.bind_some, if_t (by simp), bind_some' h2, Option.bind_some, if_t (by simp), bind_some' h3, Option.bind_some]
    rfl
theorem lmsKeys (h : Int) (ky : T_rolodexlaw04_Key) : rolodexlaw05_LmsKeys h ky = some true := by
  obtain ⟨k, id, q, seed⟩ := ky
  unfold rolodexlaw05_LmsKeys
  simp only []
  rw [bind_some' awake05, if_f (by decide)]
  by_cases hv : (1 ≤ h ∧ h ≤ 4) ∧ (1 ≤ k ∧ k ≤ 4)
  · obtain ⟨h, rfl, hh⟩ := isH_of hv.1
    obtain ⟨k, rfl, hk⟩ := kind_of hv.2
    obtain ⟨hK1, hK2⟩ := KK_le hh
    rw [bind_some' (lsize_eq hh hk), bind_some' (rsizeT_eq hh hk), Option.bind_some, if_f (by simp), bind_some' (rkeys_eq hh hk), if_t (by rw [decide_eq_true_eq]; omega), bind_some' (small_eq _ _), Option.bind_some]
    by_cases hs : (h : Int) ≤ 2 ∧ ((k : Int) < 4 ∨ (h : Int) ≤ 1)
    · rw [if_f (by rw [decide_eq_true hs]; decide), bind_some' (lnew_eq hh hk id seed), if_f (by rw [decide_eq_true_eq]; omega)]
      simp only []
      rw [if_t (by simp), show lms_Tree_Keys (some ((h : Int), (k : Int), id, seed, nodesS k id seed (KK h))) = _ from lkeys_eq hh id seed, Option.bind_some, Option.bind_some, if_t (by simp), show lms_Tree_Public (some ((h : Int), (k : Int), id, seed, nodesS k id seed (KK h))) = _ from lpublic_eq hh id seed, Option.bind_some, bind_some' (rpublicT_eq hh hk id seed), bind_some' (same_eq _ _ (by rw [pubT_len]; omega)), Option.bind_some, decide_eq_true rfl]
    · rw [if_t (by rw [decide_eq_false hs]; rfl)]
  · rw [bind_some' (lsize_no hv), bind_some' (rsizeT_no hv), Option.bind_some, if_f (by simp), bind_some' (rkeys_no hv), if_f (by simp), Option.bind_some, if_f (by decide), bind_some' (lnew_no hv id seed), if_t (by simp), if_t (by simp), Option.bind_some]
    rfl
theorem lmsSigns (h : Int) (ky : T_rolodexlaw04_Key) (msg : List (BitVec 8)) : rolodexlaw05_LmsSigns h ky msg = some true := by
  obtain ⟨k, id, q, seed⟩ := ky
  unfold rolodexlaw05_LmsSigns
  simp only []
  rw [bind_some' awake05, if_f (by decide), Option.bind_some]
  by_cases hm : 300 < msg.length
  · rw [if_t (by rw [decide_eq_true_eq]; omega), Option.bind_some, if_t rfl, Option.bind_some, if_t rfl, bind_some' awake05]
  · rw [if_f (by rw [decide_eq_true_eq]; omega)]
    by_cases hv : (1 ≤ h ∧ h ≤ 4) ∧ (1 ≤ k ∧ k ≤ 4)
    · obtain ⟨h, rfl, hh⟩ := isH_of hv.1
      obtain ⟨k, rfl, hk⟩ := kind_of hv.2
      obtain ⟨hK1, hK2⟩ := KK_le hh
      rw [bind_some' (rkeys_eq hh hk), Option.bind_some, if_f (by rw [decide_eq_true_eq]; omega), bind_some' (small_eq _ _), Option.bind_some]
      by_cases hs : (h : Int) ≤ 2 ∧ ((k : Int) < 4 ∨ (h : Int) ≤ 1)
      · rw [if_f (by rw [decide_eq_true hs]; decide), bind_some' (lnew_eq hh hk id seed), Option.bind_some]
        simp only []
        have hq : (q % (6#32)).toNat < 6 := by
          rw [BitVec.toNat_umod]
          exact Nat.mod_lt _ (by decide)
        generalize (q % (6#32)).toNat = n at hq ⊢
        have w1 : w64 ((n : Int) - 1) = (n : Int) - 1 := by rw [w64_id (by omega) (by omega)]
        rw [w1]
        clear w1
        by_cases hc : 1 ≤ n ∧ n - 1 < KK h
        · obtain ⟨m, rfl⟩ : ∃ m, n = m + 1 := ⟨n - 1, by omega⟩
          have e : ((m + 1 : Nat) : Int) - 1 = (m : Int) := by omega
          have hl := sigT_len (k := k) id seed m (by omega : m < KK h) msg
          have hsz : sizeN k ≤ 100000 := by have := chainsN_le hk; unfold sizeN; omega
          have hhl := isH_le hh
          rw [e, show lms_Tree_Sign (some ((h : Int), (k : Int), id, seed, nodesS k id seed (KK h))) (m : Int) msg = _ from lsign_eq hh hk id seed m (by omega) msg (by omega), Option.bind_some, bind_some' (rsignT_eq hh hk id seed m (by omega) msg (by omega)), if_t (by simp), bind_some' (same_eq _ _ (by rw [hl]; omega)), Option.bind_some, decide_eq_true rfl]
        · rw [show lms_Tree_Sign (some ((h : Int), (k : Int), id, seed, nodesS k id seed (KK h))) ((n : Int) - 1) msg = _ from lsign_spent (k := k) hh id seed ((n : Int) - 1) (by omega) msg, Option.bind_some, bind_some' (rsignT_spent hh hk id seed ((n : Int) - 1) (by omega) msg), if_t (by simp), bind_some' (same_eq _ _ (by simp)), Option.bind_some, decide_eq_true rfl]
      · rw [if_t (by rw [decide_eq_false hs]; rfl), bind_some' awake05]
    · rw [bind_some' (rkeys_no hv), Option.bind_some, if_t (by simp), Option.bind_some, if_t rfl, bind_some' awake05]
theorem lmsVerifies (p msg sig : List (BitVec 8)) : rolodexlaw05_LmsVerifies p msg sig = some true := by
  unfold rolodexlaw05_LmsVerifies
  rw [bind_some' awake05, if_f (by decide), Option.bind_some]
  by_cases h1 : 200 < p.length
  · rw [if_t (by rw [decide_eq_true_eq]; omega), Option.bind_some, if_t rfl, Option.bind_some, if_t rfl, bind_some' awake05]
  · rw [if_f (by rw [decide_eq_true_eq]; omega), Option.bind_some]
    by_cases h2 : 300 < msg.length
    · rw [if_t (by rw [decide_eq_true_eq]; omega), Option.bind_some, if_t rfl, bind_some' awake05]
    · rw [if_f (by rw [decide_eq_true_eq]; omega), Option.bind_some]
      by_cases h3 : 9000 < sig.length
      · rw [if_t (by rw [decide_eq_true_eq]; omega), bind_some' awake05]
      · rw [if_f (by rw [decide_eq_true_eq]; omega), bind_some' (lverify_eq p msg sig (by omega) (by omega) (by omega)), bind_some' (rverify_eq p msg sig (by omega) (by omega) (by omega))]
        simp
/-! ## What was signed is right -/
theorem n4_mid (A B : List (BitVec 8)) (x i : Nat) (hx : x < 4294967296) (hA : A.length = i) : n4 (A ++ (be (BitVec.ofNat 32 x) 4 ++ B)) i = x := by
  unfold n4
  rw [← hA, List.drop_left, List.take_append_of_le_length (by rw [be_len]; exact Nat.le_refl _), List.take_of_length_le (by rw [be_len]; exact Nat.le_refl _), val_four, BitVec.toNat_setWidth, BitVec.toNat_ofNat]
  omega
theorem hat_mid (A B : List (BitVec 8)) (x : T_api_Hash) (i : Nat) (hA : A.length = i) : hat (A ++ (x.toList ++ B)) i = x := by
  apply Vector.toList_inj.1
  rw [hat_toList _ _ (by rw [List.length_append, List.length_append, Vector.length_toList]; omega), ← hA, List.drop_left, List.take_left' (by simp)]
theorem idat_mid (A B : List (BitVec 8)) (x : T_api_ID) (i : Nat) (hA : A.length = i) : idat (A ++ (x.toList ++ B)) i = x := by
  apply Vector.toList_inj.1
  rw [idat_toList _ _ (by rw [List.length_append, List.length_append, Vector.length_toList]; omega), ← hA, List.drop_left, List.take_left' (by simp)]
theorem hats_cons (b : List (BitVec 8)) (p h : Nat) : hats b p (h + 1) = hat b p :: hats b (p + 32) h := by
  unfold hats
  rw [List.range_succ_eq_map, List.map_cons, List.map_map]
  refine congrArg (List.cons (hat b p)) ?_
  apply List.map_congr_left
  intro i _
  show hat b (p + 32 * (i + 1)) = hat b (p + 32 + 32 * i)
  rw [show p + 32 * (i + 1) = p + 32 + 32 * i by omega]
theorem hats_cat : ∀ (l : List T_api_Hash) (A : List (BitVec 8)) (p : Nat), A.length = p → hats (A ++ catH l) p l.length = l
  | [], A, p, h => rfl
  | x :: l, A, p, h => by
    rw [List.length_cons, hats_cons]
    have e : catH (x :: l) = x.toList ++ catH l := rfl
    rw [e, hat_mid A _ x p h, ← List.append_assoc, hats_cat l (A ++ x.toList) (p + 32) (by rw [List.length_append, Vector.length_toList, h])]
theorem climb_pth (k : Nat) (id : T_api_ID) (seed : T_api_Hash) (K : Nat) : ∀ (n r : Nat), r ≤ n → 0 < r → r < 2 * K → climbv id r (tv k id seed K r) (pth (tv k id seed K) r) = tv k id seed K 1 := by
  intro n
  induction n with
  | zero => intro r h1 h2; omega
  | succ n ih =>
    intro r h1 h2 h3
    by_cases hr : 1 < r
    · rw [pth_step _ hr]
      show climbv id (r / 2) (if r % 2 = 1 then _ else _) (pth (tv k id seed K) (r / 2)) = _
      have e : (if r % 2 = 1 then ndh id (r / 2) 33667 ((tv k id seed K (sib r)).toList ++ (tv k id seed K r).toList) else ndh id (r / 2) 33667 ((tv k id seed K r).toList ++ (tv k id seed K (sib r)).toList)) = tv k id seed K (r / 2) := by
        rw [tv_inner k id seed K (r := r / 2) (by omega) (by omega)]
        by_cases c : r % 2 = 1
        · rw [if_pos c, show sib r = 2 * (r / 2) by unfold sib; omega]
          conv => lhs; rw [show r = 2 * (r / 2) + 1 by omega]
          rw [show (2 * (r / 2) + 1) / 2 = r / 2 by omega]
        · rw [if_neg c, show sib r = 2 * (r / 2) + 1 by unfold sib; omega]
          conv => lhs; rw [show r = 2 * (r / 2) by omega]
          rw [show (2 * (r / 2)) / 2 = r / 2 by omega]
      rw [e]
      exact ih (r / 2) (by omega) (by omega) (by omega)
    · have : r = 1 := by omega
      subst this
      rw [pth_one _ hr]; rfl
theorem isKind_lt {k : Nat} (hk : IsKind k) : k < 4294967296 := by have := isK_le hk; omega
theorem pubT_parts {h k : Nat} (hh : IsH h) (hk : IsKind k) (id : T_api_ID) (seed : T_api_Hash) : n4 (pubT h k id seed) 0 = h ∧ n4 (pubT h k id seed) 4 = k ∧ idat (pubT h k id seed) 8 = id ∧ ((pubT h k id seed).drop 24).take 32 = (tv k id seed (KK h) 1).toList := by
  have h1 := isH_le hh
  have h2 := isK_le hk
  refine ⟨?_, ?_, ?_, ?_⟩
  · have := n4_mid [] ((be (BitVec.ofNat 32 k) 4 ++ id.toList) ++ (tv k id seed (KK h) 1).toList) h 0 (by omega) rfl
    unfold pubT
    simpa [List.append_assoc] using this
  · have := n4_mid (be (BitVec.ofNat 32 h) 4) (id.toList ++ (tv k id seed (KK h) 1).toList) k 4 (by omega) (be_len _ _)
    unfold pubT
    simpa [List.append_assoc] using this
  · have := idat_mid (be (BitVec.ofNat 32 h) 4 ++ be (BitVec.ofNat 32 k) 4) ((tv k id seed (KK h) 1).toList) id 8 (by rw [List.length_append, be_len, be_len])
    unfold pubT
    simpa [List.append_assoc] using this
  · unfold pubT
    rw [List.drop_left' (by rw [List.length_append, List.length_append, be_len, be_len, Vector.length_toList]), List.take_of_length_le (by simp)]
theorem vrf_right {h k : Nat} (hh : IsH h) (hk : IsKind k) (id : T_api_ID) (seed : T_api_Hash) (q : Nat) (hq : q < KK h) (msg : List (BitVec 8)) : vrf (pubT h k id seed) msg (sigT h k id seed q msg) = true := by
  obtain ⟨p1, p2, p3, p4⟩ := pubT_parts hh hk id seed
  obtain ⟨hK1, hK2⟩ := KK_le hh
  have h1 := isH_le hh
  have h2 := isK_le hk
  have hl := sigT_len (k := k) id seed q hq msg
  have sl := sigk_len (k := k) id (BitVec.ofNat 32 q) seed msg
  have e0 : n4 (sigT h k id seed q msg) 0 = q := by
    have := n4_mid [] ((sigk k id (BitVec.ofNat 32 q) seed msg ++ be (BitVec.ofNat 32 h) 4) ++ catH (pth (tv k id seed (KK h)) (KK h + q))) q 0 (by omega) rfl
    unfold sigT
    simpa [List.append_assoc] using this
  have e1 : ((sigT h k id seed q msg).drop 4).take (sizeN k) = sigk k id (BitVec.ofNat 32 q) seed msg := by
    unfold sigT
    rw [List.append_assoc, List.append_assoc, List.drop_left' (be_len _ _), List.take_left' sl]
  have e2 : n4 (sigT h k id seed q msg) (4 + sizeN k) = h := by
    have := n4_mid (be (BitVec.ofNat 32 q) 4 ++ sigk k id (BitVec.ofNat 32 q) seed msg) (catH (pth (tv k id seed (KK h)) (KK h + q))) h (4 + sizeN k) (by omega) (by rw [List.length_append, be_len, sl])
    unfold sigT
    rw [List.append_assoc]
    exact this
  have e3 : n4 (sigk k id (BitVec.ofNat 32 q) seed msg) 0 = k := by
    have := (sigk_sig hk id (BitVec.ofNat 32 q) seed msg).2.2
    unfold n4
    rw [List.drop_zero]
    exact this
  have pl : (pth (tv k id seed (KK h)) (KK h + q)).length = h := pth_len _ h _ (by unfold KK; omega) (by rw [Nat.pow_succ]; unfold KK at hq ⊢; omega)
  have e4 : hats (sigT h k id seed q msg) (8 + sizeN k) h = pth (tv k id seed (KK h)) (KK h + q) := by
    have := hats_cat (pth (tv k id seed (KK h)) (KK h + q)) ((be (BitVec.ofNat 32 q) 4 ++ sigk k id (BitVec.ofNat 32 q) seed msg) ++ be (BitVec.ofNat 32 h) 4) (8 + sizeN k) (by rw [List.length_append, List.length_append, be_len, be_len, sl]; omega)
    rw [pl] at this
    exact this
  unfold vrf
  rw [p1, p2, p3, p4]
  rw [decide_eq_true]
  refine ⟨pubT_len _ _ _ _, by omega, by omega, hl, ⟨e2, by rw [e0]; exact hq, by rw [e1]; exact e3⟩, ?_⟩
  refine congrArg Vector.toList ?_
  unfold leads
  rw [e0, e1, e4, recov_sigk hk]
  have el : ndh id (KK h + q) 33410 (pubk k id (BitVec.ofNat 32 q) seed).toList = tv k id seed (KK h) (KK h + q) := by
    rw [tv_leaf _ _ _ _ (Nat.le_add_right _ _)]
    unfold lfv
    rw [Nat.add_sub_cancel_left]
  rw [el]
  exact climb_pth k id seed (KK h) (KK h + q) (KK h + q) (Nat.le_refl _) (by omega) (by omega)
theorem lmsRight (two : Vector (BitVec 8) 2) (ky : T_rolodexlaw04_Key) (msg : List (BitVec 8)) : rolodexlaw05_LmsRight two ky msg = some true := by
  obtain ⟨k, id, q, seed⟩ := ky
  unfold rolodexlaw05_LmsRight
  simp only []
  rw [bind_some' (vget_at (i := (0 : Int)) (k := 0) rfl (by decide)), bind_some' (vget_at (i := (1 : Int)) (k := 1) rfl (by decide))]
  have hq : (two[0] % (2#8)).toNat < 2 := by
    rw [BitVec.toNat_umod]
    exact Nat.mod_lt _ (by decide)
  generalize (two[0] % (2#8)).toNat = n at hq ⊢
  generalize two[1] = t1
  have w1 : w64 ((1 : Int) + (n : Int)) = ((n + 1 : Nat) : Int) := by rw [w64_id (by omega) (by omega)]; omega
  rw [w1, Option.bind_some, bind_some' (small_eq _ _)]
  clear w1
  have hh : IsH (n + 1) := by unfold IsH; omega
  generalize n + 1 = h at hh ⊢
  by_cases hs : (h : Int) ≤ 2 ∧ (k < 4 ∨ (h : Int) ≤ 1)
  · rw [if_f (by rw [decide_eq_true hs]; decide)]
    by_cases hkk : 1 ≤ k ∧ k ≤ 4
    · obtain ⟨k, rfl, hk⟩ := kind_of hkk
      obtain ⟨hK1, hK2⟩ := KK_le hh
      rw [bind_some' (lnew_eq hh hk id seed), bind_some' awake05, if_f (by decide), Option.bind_some]
      simp only []
      by_cases hm : 300 < msg.length
      · rw [if_t (by rw [decide_eq_true_eq]; omega), Option.bind_some, if_t rfl, bind_some' awake05]
      · have hmod : Int.tmod (t1.toNat : Int) (KK h : Int) = ((t1.toNat % KK h : Nat) : Int) := (Int.ofNat_tmod _ _).symm
        have hlt : t1.toNat % KK h < KK h := Nat.mod_lt _ (by omega)
        have kq : lms_Tree_Keys (some ((h : Int), (k : Int), id, seed, nodesS k id seed (KK h))) = _ := lkeys_eq hh id seed
        have sq : lms_Tree_Sign (some ((h : Int), (k : Int), id, seed, nodesS k id seed (KK h))) ((t1.toNat % KK h : Nat) : Int) msg = _ := lsign_eq hh hk id seed (t1.toNat % KK h) hlt msg (by omega)
        have ss : lms_Tree_Sign (some ((h : Int), (k : Int), id, seed, nodesS k id seed (KK h))) (KK h : Int) msg = _ := lsign_spent (k := k) hh id seed (KK h : Int) (Or.inr (Int.le_refl _)) msg
        have pq : lms_Tree_Public (some ((h : Int), (k : Int), id, seed, nodesS k id seed (KK h))) = _ := lpublic_eq hh id seed
        have hl := sigT_len (k := k) id seed (t1.toNat % KK h) hlt msg
        have hvr := vrf_right hh hk id seed (t1.toNat % KK h) hlt msg
        have hsz : sizeN k ≤ 100000 := by have := chainsN_le hk; unfold sizeN; omega
        have hhl := isH_le hh
        have q1 : (sigT h k id seed (t1.toNat % KK h) msg).length ≤ 2000000000 := by rw [hl]; omega
        rw [if_f (by rw [decide_eq_true_eq]; omega), Option.bind_some, if_f (by simp), bind_some' kq, if_t (by omega), hmod, bind_some' sq, bind_some' kq, bind_some' ss, if_t (by simp), bind_some' (lsize_eq hh hk), Option.bind_some, if_t (by rw [decide_eq_true_eq, hl]), bind_some' pq, bind_some' (lverify_eq _ _ _ (by rw [pubT_len]; omega) (by omega) q1), hvr, Option.bind_some, if_t rfl, Option.bind_some]
        rfl
    · rw [bind_some' (lnew_no (by omega) id seed), bind_some' awake05, if_f (by decide), Option.bind_some]
      by_cases hm : 300 < msg.length
      · rw [if_t (by rw [decide_eq_true_eq]; omega), Option.bind_some, if_t rfl, bind_some' awake05]
      · rw [if_f (by rw [decide_eq_true_eq]; omega), Option.bind_some, if_t (by simp), bind_some' awake05]
  · rw [if_t (by rw [decide_eq_false hs]; rfl), bind_some' awake05]
theorem vrf_len {h k : Nat} (hh : IsH h) (hk : IsKind k) (id : T_api_ID) (seed : T_api_Hash) (msg sig : List (BitVec 8)) (hl : sig.length ≠ 8 + sizeN k + 32 * h) : vrf (pubT h k id seed) msg sig = false := by
  obtain ⟨p1, p2, p3, p4⟩ := pubT_parts hh hk id seed
  unfold vrf
  rw [p1, p2, decide_eq_false (fun hc => hl hc.2.2.2.1)]
theorem vrf_plen (p msg sig : List (BitVec 8)) (hl : p.length ≠ 56) : vrf p msg sig = false := by
  unfold vrf
  rw [decide_eq_false (fun hc => hl hc.1)]
theorem lmsCuts (ky : T_rolodexlaw04_Key) (msg more : List (BitVec 8)) : rolodexlaw05_LmsCuts ky msg more = some true := by
  obtain ⟨k, id, q, seed⟩ := ky
  unfold rolodexlaw05_LmsCuts
  simp only []
  have rest : ∀ (c : Bool) (o : Option Bool), c = true → (if c = true then Option.bind rolodexlaw05_awake fun r3 => some r3 else o) = some true := fun c o hc => by rw [hc, if_pos rfl, bind_some' awake05]
  by_cases hkk : 1 ≤ k ∧ k ≤ 4
  · obtain ⟨k, rfl, hk⟩ := kind_of hkk
    have hh : IsH 1 := Or.inl rfl
    have hK : KK 1 = 2 := rfl
    have hn : lms_New (1 : Int) (k : Int) id seed = some (trS 1 k id seed, 0) := lnew_eq hh hk id seed
    rw [bind_some' hn, bind_some' awake05, if_f (by decide), Option.bind_some]
    by_cases hm : 300 < msg.length
    · rw [if_t (by rw [decide_eq_true_eq]; omega), Option.bind_some, if_t rfl, Option.bind_some, if_t rfl, Option.bind_some, if_t rfl, bind_some' awake05]
    · rw [if_f (by rw [decide_eq_true_eq]; omega), Option.bind_some]
      by_cases h0 : more.length = 0
      · rw [if_t (by rw [decide_eq_true_eq]; omega), Option.bind_some, if_t rfl, Option.bind_some, if_t rfl, bind_some' awake05]
      · rw [if_f (by rw [decide_eq_true_eq]; omega), Option.bind_some]
        by_cases h50 : 50 < more.length
        · rw [if_t (by rw [decide_eq_true_eq]; omega), Option.bind_some, if_t rfl, bind_some' awake05]
        · have sq : lms_Tree_Sign (trS 1 k id seed) (1 : Int) msg = _ := lsign_eq hh hk id seed 1 (by rw [hK]; omega) msg (by omega)
          have pq := lpublic_eq (k := k) hh id seed
          have hl := sigT_len (h := 1) (k := k) id seed 1 (by rw [hK]; omega) msg
          have pl := pubT_len 1 k id seed
          have hsz : sizeN k ≤ 100000 ∧ 36 ≤ sizeN k := by have := chainsN_le hk; unfold sizeN; omega
          have w1 : w64 (((sigT 1 k id seed 1 msg).length : Int) - (more.length : Int)) = (((sigT 1 k id seed 1 msg).length - more.length : Nat) : Int) := by rw [w64_id (by omega) (by omega)]; omega
          have w2 : w64 (((pubT 1 k id seed).length : Int) - (more.length : Int)) = (((pubT 1 k id seed).length - more.length : Nat) : Int) := by clear w1; rw [w64_id (by omega) (by omega)]; omega
          have v1 : vrf (pubT 1 k id seed) msg (([] ++ sigT 1 k id seed 1 msg) ++ more) = false := vrf_len hh hk id seed _ _ (by clear w1 w2; rw [List.nil_append, List.length_append]; omega)
          have v2 : vrf (pubT 1 k id seed) msg ((sigT 1 k id seed 1 msg).take ((sigT 1 k id seed 1 msg).length - more.length)) = false := vrf_len hh hk id seed _ _ (by clear w1 w2; rw [List.length_take]; omega)
          have v3 : vrf (([] ++ pubT 1 k id seed) ++ more) msg (sigT 1 k id seed 1 msg) = false := vrf_plen _ _ _ (by clear w1 w2; rw [List.nil_append, List.length_append]; omega)
          have v4 : vrf ((pubT 1 k id seed).take ((pubT 1 k id seed).length - more.length)) msg (sigT 1 k id seed 1 msg) = false := vrf_plen _ _ _ (by clear w1 w2; rw [List.length_take]; omega)
          have q1 : (([] ++ sigT 1 k id seed 1 msg) ++ more).length ≤ 2000000000 := by clear w1 w2; rw [List.nil_append, List.length_append]; omega
          have q2 : (([] ++ pubT 1 k id seed) ++ more).length ≤ 2000000000 := by clear w1 w2; rw [List.nil_append, List.length_append]; omega
          rw [if_f (by rw [decide_eq_true_eq]; clear w1 w2; omega), Option.bind_some, if_f (by simp), bind_some' sq, bind_some' pq]
          simp only []
          rw [if_t (by clear w1 w2; simp only [List.length_nil]; unfold AP; omega), if_t (by clear w1 w2; simp only [List.nil_append]; unfold AP; omega), if_t (by clear w1 w2; simp only [List.length_nil]; unfold AP; omega), if_t (by clear w1 w2; simp only [List.nil_append]; unfold AP; omega),
            bind_some' (lverify_eq _ _ _ (by clear w1 w2; omega) (by clear w1 w2; omega) q1), v1, if_t (by rfl), w1, bind_some' (lslice_at (lo := (0 : Int)) (a := 0) rfl rfl (Nat.zero_le _) (Nat.sub_le _ _)), List.drop_zero, bind_some' (lverify_eq _ _ _ (by clear w1 w2; omega) (by clear w1 w2; omega) (by clear w1 w2; rw [List.length_take]; omega)), v2, Option.bind_some, if_t (by rfl),
            bind_some' (lverify_eq _ _ _ (by clear w1 w2; omega) (by clear w1 w2; omega) (by clear w1 w2; omega)), v3, Option.bind_some, if_t (by rfl), w2, bind_some' (lslice_at (lo := (0 : Int)) (a := 0) rfl rfl (Nat.zero_le _) (Nat.sub_le _ _)), List.drop_zero, bind_some' (lverify_eq _ _ _ (by clear w1 w2; rw [List.length_take]; omega) (by clear w1 w2; omega) (by clear w1 w2; omega)), v4, Option.bind_some]
          rfl
  · rw [bind_some' (lnew_no (by omega) id seed), bind_some' awake05, if_f (by decide), Option.bind_some]
    by_cases hm : 300 < msg.length
    · rw [if_t (by rw [decide_eq_true_eq]; omega), Option.bind_some, if_t rfl, Option.bind_some, if_t rfl, Option.bind_some, if_t rfl, bind_some' awake05]
    · rw [if_f (by rw [decide_eq_true_eq]; omega), Option.bind_some]
      by_cases h0 : more.length = 0
      · rw [if_t (by rw [decide_eq_true_eq]; omega), Option.bind_some, if_t rfl, Option.bind_some, if_t rfl, bind_some' awake05]
      · rw [if_f (by rw [decide_eq_true_eq]; omega), Option.bind_some]
        by_cases h50 : 50 < more.length
        · rw [if_t (by rw [decide_eq_true_eq]; omega), Option.bind_some, if_t rfl, bind_some' awake05]
        · rw [if_f (by rw [decide_eq_true_eq]; omega), Option.bind_some, if_t (by simp), bind_some' awake05]
end Go.Sl.Pu
