import Derived.Test.YtheldkljmefbaaaGreatDoorPls2
set_option linter.unusedSimpArgs false
set_option linter.unusedVariables false
set_option maxRecDepth 20000
/-! The laws of the trees of keys. -/
namespace Go.Sl.Pu
open Go.Sl Go.Sl.M
attribute [local irreducible] sha w64 pubk und sigk ndh recov val hat
/-! ## What was signed is right -/
theorem n4_mid (A B : List (BitVec 8)) (x i : Nat) (hx : x < 4294967296) (hA : A.length = i) : n4 (A ++ (be (BitVec.ofNat 32 x) 4 ++ B)) i = x := by
  unfold n4
  rw [← hA, List.drop_left, List.take_append_of_le_length (by rw [be_len]; exact Nat.le_refl _), List.take_of_length_le (by rw [be_len]; exact Nat.le_refl _), val_four, BitVec.toNat_setWidth, BitVec.toNat_ofNat]
  omega
theorem hat_mid (A B : List (BitVec 8)) (x : T_api_Hash) (i : Nat) (hA : A.length = i) : hat (A ++ (x.toList ++ B)) i = x := by
  apply Vector.toList_inj.1
  rw [hat_toList _ _ (by rw [List.length_append, List.length_append, Vector.length_toList]; omega), ← hA, List.drop_left, List.take_left' (by simp)]
theorem idat_mid (A B : List (BitVec 8)) (x : T_api_ID) (i : Nat) (hA : A.length = i) : idat (A ++ (x.toList ++ B)) i = x := by
  apply Vector.toList_inj.1
  rw [idat_toList _ _ (by rw [List.length_append, List.length_append, Vector.length_toList]; omega), ← hA, List.drop_left, List.take_left' (by simp)]
theorem hats_cons (b : List (BitVec 8)) (p h : Nat) : hats b p (h + 1) = hat b p :: hats b (p + 32) h := by
  unfold hats
  rw [List.range_succ_eq_map, List.map_cons, List.map_map]
  refine congrArg (List.cons (hat b p)) ?_
  apply List.map_congr_left
  intro i _
  show hat b (p + 32 * (i + 1)) = hat b (p + 32 + 32 * i)
  rw [show p + 32 * (i + 1) = p + 32 + 32 * i by omega]
theorem hats_cat : ∀ (l : List T_api_Hash) (A : List (BitVec 8)) (p : Nat), A.length = p → hats (A ++ catH l) p l.length = l
  | [], A, p, h => rfl
  | x :: l, A, p, h => by
    rw [List.length_cons, hats_cons]
    have e : catH (x :: l) = x.toList ++ catH l := rfl
    rw [e, hat_mid A _ x p h, ← List.append_assoc, hats_cat l (A ++ x.toList) (p + 32) (by rw [List.length_append, Vector.length_toList, h])]
theorem climb_pth (k : Nat) (id : T_api_ID) (seed : T_api_Hash) (K : Nat) : ∀ (n r : Nat), r ≤ n → 0 < r → r < 2 * K → climbv id r (tv k id seed K r) (pth (tv k id seed K) r) = tv k id seed K 1 := by
  intro n
  induction n with
  | zero => intro r h1 h2; omega
  | succ n ih =>
    intro r h1 h2 h3
    by_cases hr : 1 < r
    · rw [pth_step _ hr]
      show climbv id (r / 2) (if r % 2 = 1 then _ else _) (pth (tv k id seed K) (r / 2)) = _
      have e : (if r % 2 = 1 then ndh id (r / 2) 33667 ((tv k id seed K (sib r)).toList ++ (tv k id seed K r).toList) else ndh id (r / 2) 33667 ((tv k id seed K r).toList ++ (tv k id seed K (sib r)).toList)) = tv k id seed K (r / 2) := by
        rw [tv_inner k id seed K (r := r / 2) (by omega) (by omega)]
        by_cases c : r % 2 = 1
        · rw [if_pos c, show sib r = 2 * (r / 2) by unfold sib; omega]
          conv => lhs; rw [show r = 2 * (r / 2) + 1 by omega]
          rw [show (2 * (r / 2) + 1) / 2 = r / 2 by omega]
        · rw [if_neg c, show sib r = 2 * (r / 2) + 1 by unfold sib; omega]
          conv => lhs; rw [show r = 2 * (r / 2) by omega]
          rw [show (2 * (r / 2)) / 2 = r / 2 by omega]
      rw [e]
      exact ih (r / 2) (by omega) (by omega) (by omega)
    · have : r = 1 := by omega
      subst this
      rw [pth_one _ hr]; rfl
theorem pubT_parts {h k : Nat} (hh : IsH h) (hk : IsKind k) (id : T_api_ID) (seed : T_api_Hash) : n4 (pubT h k id seed) 0 = h ∧ n4 (pubT h k id seed) 4 = k ∧ idat (pubT h k id seed) 8 = id ∧ ((pubT h k id seed).drop 24).take 32 = (tv k id seed (KK h) 1).toList := by
  have h1 := isH_le hh
  have h2 := isK_le hk
  refine ⟨?_, ?_, ?_, ?_⟩
  · have := n4_mid [] ((be (BitVec.ofNat 32 k) 4 ++ id.toList) ++ (tv k id seed (KK h) 1).toList) h 0 (by omega) rfl
    unfold pubT
    simpa [List.append_assoc] using this
  · have := n4_mid (be (BitVec.ofNat 32 h) 4) (id.toList ++ (tv k id seed (KK h) 1).toList) k 4 (by omega) (be_len _ _)
    unfold pubT
    simpa [List.append_assoc] using this
  · have := idat_mid (be (BitVec.ofNat 32 h) 4 ++ be (BitVec.ofNat 32 k) 4) ((tv k id seed (KK h) 1).toList) id 8 (by rw [List.length_append, be_len, be_len])
    unfold pubT
    simpa [List.append_assoc] using this
  · unfold pubT
    rw [List.drop_left' (by rw [List.length_append, List.length_append, be_len, be_len, Vector.length_toList]), List.take_of_length_le (by simp)]
theorem vrf_right {h k : Nat} (hh : IsH h) (hk : IsKind k) (id : T_api_ID) (seed : T_api_Hash) (q : Nat) (hq : q < KK h) (msg : List (BitVec 8)) : vrf (pubT h k id seed) msg (sigT h k id seed q msg) = true := by
  obtain ⟨p1, p2, p3, p4⟩ := pubT_parts hh hk id seed
  obtain ⟨hK1, hK2⟩ := KK_le hh
  have h1 := isH_le hh
  have h2 := isK_le hk
  have hl := sigT_len (k := k) id seed q hq msg
  have sl := sigk_len (k := k) id (BitVec.ofNat 32 q) seed msg
  have e0 : n4 (sigT h k id seed q msg) 0 = q := by
    have := n4_mid [] ((sigk k id (BitVec.ofNat 32 q) seed msg ++ be (BitVec.ofNat 32 h) 4) ++ catH (pth (tv k id seed (KK h)) (KK h + q))) q 0 (by omega) rfl
    unfold sigT
    simpa [List.append_assoc] using this
  have e1 : ((sigT h k id seed q msg).drop 4).take (sizeN k) = sigk k id (BitVec.ofNat 32 q) seed msg := by
    unfold sigT
    rw [List.append_assoc, List.append_assoc, List.drop_left' (be_len _ _), List.take_left' sl]
  have e2 : n4 (sigT h k id seed q msg) (4 + sizeN k) = h := by
    have := n4_mid (be (BitVec.ofNat 32 q) 4 ++ sigk k id (BitVec.ofNat 32 q) seed msg) (catH (pth (tv k id seed (KK h)) (KK h + q))) h (4 + sizeN k) (by omega) (by rw [List.length_append, be_len, sl])
    unfold sigT
    rw [List.append_assoc]
    exact this
  have e3 : n4 (sigk k id (BitVec.ofNat 32 q) seed msg) 0 = k := by
    have := (sigk_sig hk id (BitVec.ofNat 32 q) seed msg).2.2
    unfold n4
    rw [List.drop_zero]
    exact this
  have pl : (pth (tv k id seed (KK h)) (KK h + q)).length = h := pth_len _ h _ (by unfold KK; omega) (by rw [Nat.pow_succ]; unfold KK at hq ⊢; omega)
  have e4 : hats (sigT h k id seed q msg) (8 + sizeN k) h = pth (tv k id seed (KK h)) (KK h + q) := by
    have := hats_cat (pth (tv k id seed (KK h)) (KK h + q)) ((be (BitVec.ofNat 32 q) 4 ++ sigk k id (BitVec.ofNat 32 q) seed msg) ++ be (BitVec.ofNat 32 h) 4) (8 + sizeN k) (by rw [List.length_append, List.length_append, be_len, be_len, sl]; omega)
    rw [pl] at this
    exact this
  unfold vrf
  rw [p1, p2, p3, p4]
  rw [decide_eq_true]
  refine ⟨pubT_len _ _ _ _, by omega, by omega, hl, ⟨e2, by rw [e0]; exact hq, by rw [e1]; exact e3⟩, ?_⟩
  refine congrArg Vector.toList ?_
  unfold leads
  rw [e0, e1, e4, recov_sigk hk]
  have el : ndh id (KK h + q) 33410 (pubk k id (BitVec.ofNat 32 q) seed).toList = tv k id seed (KK h) (KK h + q) := by
    rw [tv_leaf _ _ _ _ (Nat.le_add_right _ _)]
    unfold lfv
    rw [Nat.add_sub_cancel_left]
  rw [el]
  exact climb_pth k id seed (KK h) (KK h + q) (KK h + q) (Nat.le_refl _) (by omega) (by omega)
end Go.Sl.Pu
