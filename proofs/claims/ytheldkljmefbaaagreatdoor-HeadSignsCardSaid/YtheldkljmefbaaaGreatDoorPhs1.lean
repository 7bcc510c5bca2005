import Derived.Test.YtheldkljmefbaaaGreatDoorPhs0
set_option linter.unusedSimpArgs false
set_option linter.unusedVariables false
set_option maxRecDepth 20000
/-! Signers: two storeys of trees. -/
namespace Go.Sl.Pu
open Go.Sl Go.Sl.M
attribute [local irreducible] sha w64 pubk und sigk ndh recov val hat tagged pubT sigT idat nodesS vrf
def tID (seed : T_api_Hash) : T_api_ID := idat (tagged 105#8 [seed.toList]).toList 0
def tSeed (seed : T_api_Hash) : T_api_Hash := tagged 115#8 [seed.toList]
def bID (seed : T_api_Hash) (i : Nat) : T_api_ID := idat (tagged 105#8 [seed.toList, be (BitVec.ofNat 32 i) 4]).toList 0
def bSeed (seed : T_api_Hash) (i : Nat) : T_api_Hash := tagged 115#8 [seed.toList, be (BitVec.ofNat 32 i) 4]
theorem sl16 (x : T_api_Hash) : lslice x.toList 0 (16 : Int) = some ((x.toList.drop 0).take 16) := by
  rw [lslice_at (lo := (0 : Int)) (hi := (16 : Int)) (a := 0) (b := 16) rfl rfl (by omega) (by simp), List.drop_zero, List.drop_zero]
theorem child_top (seed : T_api_Hash) : hss_child seed [] = some (tID seed, tSeed seed) := by
  unfold hss_child
  rw [if_f (by simp), Option.bind_some, bind_some' (tagged_eq _ _ (by simp [tsize])), bind_some' (sl16 _), bind_some' (idat_eq _ 0 (by simp)), bind_some' (tagged_eq _ _ (by simp [tsize]))]
  rfl
theorem be_of_i : ∀ i : Fin 16, ([BitVec.ofInt 8 (ishr (i.val : Int) (24 : Int)), BitVec.ofInt 8 (ishr (i.val : Int) (16 : Int)), BitVec.ofInt 8 (ishr (i.val : Int) (8 : Int)), BitVec.ofInt 8 (i.val : Int)] : List (BitVec 8)) = be (BitVec.ofNat 32 i.val) 4 := by with_unfolding_all decide
theorem child_bot (seed : T_api_Hash) (i : Nat) (hi : i < 16) : hss_child seed [BitVec.ofInt 8 (ishr (i : Int) (24 : Int)), BitVec.ofInt 8 (ishr (i : Int) (16 : Int)), BitVec.ofInt 8 (ishr (i : Int) (8 : Int)), BitVec.ofInt 8 (i : Int)] = some (bID seed i, bSeed seed i) := by
  rw [be_of_i ⟨i, hi⟩]
  unfold hss_child
  simp only []
  rw [if_t (by rw [decide_eq_true_eq, be_len]; omega), if_t (hap_ok (by simp)), Option.bind_some]
  simp only [List.singleton_append]
  rw [bind_some' (tagged_eq _ _ (by simp [tsize, be_len])), bind_some' (sl16 _), bind_some' (idat_eq _ 0 (by simp)), bind_some' (tagged_eq _ _ (by simp [tsize, be_len]))]
  rfl
theorem rchild_top (seed : T_api_Hash) : rolodexref06_Child seed (-1 : Int) = some (tID seed, tSeed seed) := by
  unfold rolodexref06_Child
  rw [if_f (by simp), Option.bind_some, bind_some' (rtagged_eq _ _ (by simp [tsize])), bind_some' (sl16 _), bind_some' (idat_eq _ 0 (by simp)), bind_some' (rtagged_eq _ _ (by simp [tsize]))]
  rfl
theorem rchild_bot (seed : T_api_Hash) (i : Nat) : rolodexref06_Child seed (i : Int) = some (bID seed i, bSeed seed i) := by
  unfold rolodexref06_Child
  rw [if_t (by rw [decide_eq_true_eq]; omega), bind_some' (rNum4 i), if_t (hap_ok (by simp)), Option.bind_some]
  simp only [List.singleton_append]
  rw [bind_some' (rtagged_eq _ _ (by simp [tsize, be_len])), bind_some' (sl16 _), bind_some' (idat_eq _ 0 (by simp)), bind_some' (rtagged_eq _ _ (by simp [tsize, be_len]))]
  rfl
/-! ## The signer -/
abbrev Sg : Type := Int × Int × T_api_Hash × (Option T_lms_Tree) × (Option T_lms_Tree) × Int
/-- The signer of two heights, a kind and a seed, whichever tree it used last. -/
def IsS (t b k : Nat) (seed : T_api_Hash) (s : Sg) : Prop :=
  s.1 = (b : Int) ∧ s.2.1 = (k : Int) ∧ s.2.2.1 = seed ∧ s.2.2.2.1 = trS t k (tID seed) (tSeed seed) ∧ (s.2.2.2.2.2 = -1 ∨ ∃ i : Nat, i < KK t ∧ s.2.2.2.2.2 = (i : Int) ∧ s.2.2.2.2.1 = trS b k (bID seed i) (bSeed seed i))
theorem hnew_eq {t b k : Nat} (ht : IsH t) (hb : IsH b) (hk : IsKind k) (seed : T_api_Hash) : ∃ s : Sg, hss_New (t : Int) (b : Int) (k : Int) seed = some (some s, 0) ∧ IsS t b k seed s := by
  refine ⟨((b : Int), (k : Int), seed, trS t k (tID seed) (tSeed seed), none, -1), ?_, rfl, rfl, rfl, rfl, .inl rfl⟩
  unfold hss_New
  rw [bind_some' (lsize_eq hb hk), if_f (by rw [decide_eq_true_eq]; omega), bind_some' (child_top seed), bind_some' (lnew_eq ht hk _ _), if_f (by simp), Option.bind_some]
theorem hkeys_eq {t b k : Nat} (ht : IsH t) (hb : IsH b) {seed : T_api_Hash} {s : Sg} (hs : IsS t b k seed s) : hss_Signer_Keys s = some ((KK t * KK b : Nat) : Int) := by
  unfold hss_Signer_Keys
  obtain ⟨h1, h2, h3, h4, h5⟩ := hs
  have hb1 := isH_le hb
  obtain ⟨hK1, hK2⟩ := KK_le ht
  obtain ⟨hK3, hK4⟩ := KK_le hb
  have hm : KK t * KK b ≤ 16 * 16 := Nat.mul_le_mul hK2 hK4
  rw [h4, bind_some' (lkeys_eq ht _ _), h1, if_t (by omega), ishl_nat (KK t) b (by omega) (by show KK t * KK b < _; omega)]
  rfl
def hpub (t k : Nat) (seed : T_api_Hash) : List (BitVec 8) := [0#8, 0#8, 0#8, 2#8] ++ pubT t k (tID seed) (tSeed seed)
theorem hpub_len (t k : Nat) (seed : T_api_Hash) : (hpub t k seed).length = 60 := by unfold hpub; rw [List.length_append, pubT_len]; rfl
theorem hpublic_eq {t b k : Nat} (ht : IsH t) {seed : T_api_Hash} {s : Sg} (hs : IsS t b k seed s) : hss_Signer_Public s = some (hpub t k seed) := by
  unfold hss_Signer_Public
  rw [hs.2.2.2.1, bind_some' (lpublic_eq ht _ _), bind_some' (hconcat_eq _ (by simp [pubT_len]) (by simp))]
  simp [hpub]
theorem htree_eq {t b k : Nat} (ht : IsH t) (hb : IsH b) (hk : IsKind k) {seed : T_api_Hash} {s : Sg} (hs : IsS t b k seed s) (i : Nat) (hi : i < KK t) : ∃ s' : Sg, hss_Signer_tree s (i : Int) = some (s', trS b k (bID seed i) (bSeed seed i), 0) ∧ IsS t b k seed s' := by
  obtain ⟨hK1, hK2⟩ := KK_le ht
  unfold hss_Signer_tree
  obtain ⟨s1, s2, s3, s4, s5, s6⟩ := s
  obtain ⟨h1, h2, h3, h4, h5⟩ := hs
  simp only [] at h1 h2 h3 h4 h5
  subst h1 h2 h3 h4
  by_cases he : s6 = (i : Int)
  · rw [if_t (by simpa using he)]
    rcases h5 with h5 | ⟨j, hj, h5, h6⟩
    · exfalso; omega
    · have : j = i := by omega
      subst this
      exact ⟨_, by simp only []; rw [h6], rfl, rfl, rfl, rfl, .inr ⟨j, hj, h5, rfl⟩⟩
  · rw [if_f (by simpa using he)]
    refine ⟨((b : Int), (k : Int), s3, trS t k (tID s3) (tSeed s3), trS b k (bID s3 i) (bSeed s3 i), (i : Int)), ?_, rfl, rfl, rfl, rfl, .inr ⟨i, hi, rfl, rfl⟩⟩
    rw [bind_some' (child_bot s3 i (by omega)), bind_some' (lnew_eq hb hk _ _), if_f (by simp)]
def hsig (t b k : Nat) (seed : T_api_Hash) (n : Nat) (msg : List (BitVec 8)) : List (BitVec 8) :=
  (([0#8, 0#8, 0#8, 1#8] ++ sigT t k (tID seed) (tSeed seed) (n / KK b) (pubT b k (bID seed (n / KK b)) (bSeed seed (n / KK b)))) ++ pubT b k (bID seed (n / KK b)) (bSeed seed (n / KK b))) ++ sigT b k (bID seed (n / KK b)) (bSeed seed (n / KK b)) (n % KK b) msg
theorem hdiv_lt {t b n : Nat} (hb : IsH b) (hn : n < KK t * KK b) : n / KK b < KK t ∧ n % KK b < KK b := by
  obtain ⟨hK3, hK4⟩ := KK_le hb
  exact ⟨Nat.div_lt_of_lt_mul (by rw [Nat.mul_comm]; exact hn), Nat.mod_lt _ (by omega)⟩
theorem hsig_len {t b k : Nat} (hb : IsH b) (seed : T_api_Hash) (n : Nat) (hn : n < KK t * KK b) (msg : List (BitVec 8)) : (hsig t b k seed n msg).length = 4 + (8 + sizeN k + 32 * t) + 56 + (8 + sizeN k + 32 * b) := by
  obtain ⟨d1, d2⟩ := hdiv_lt hb hn
  unfold hsig
  rw [List.length_append, List.length_append, List.length_append, sigT_len _ _ _ d1, sigT_len _ _ _ d2, pubT_len]
  simp only [List.length_cons, List.length_nil]
theorem hsign_eq {t b k : Nat} (ht : IsH t) (hb : IsH b) (hk : IsKind k) {seed : T_api_Hash} {s : Sg} (hs : IsS t b k seed s) (n : Nat) (hn : n < KK t * KK b) (msg : List (BitVec 8)) (hm : msg.length ≤ 2000000000) :
    ∃ s' : Sg, hss_Signer_Sign s (n : Int) msg = some (s', hsig t b k seed n msg, 0) ∧ IsS t b k seed s' := by
  obtain ⟨d1, d2⟩ := hdiv_lt hb hn
  obtain ⟨hK1, hK2⟩ := KK_le ht
  obtain ⟨hK3, hK4⟩ := KK_le hb
  have hb1 := isH_le hb
  have hm2 : KK t * KK b ≤ 16 * 16 := Nat.mul_le_mul hK2 hK4
  obtain ⟨s', hs', hI⟩ := htree_eq ht hb hk hs (n / KK b) d1
  refine ⟨s', ?_, hI⟩
  unfold hss_Signer_Sign
  have e1 : ishr (n : Int) (b : Int) = ((n / KK b : Nat) : Int) := ishr_nat n b (by omega)
  have e2 : iand (n : Int) (w64 (ishl (1 : Int) (b : Int) - 1)) = ((n % KK b : Nat) : Int) := by
    rw [ishl_KK hb, show w64 ((KK b : Int) - 1) = ((2 ^ b - 1 : Nat) : Int) by rw [w64_id (by omega) (by omega)]; show _ = ((KK b - 1 : Nat) : Int); omega]
    exact iand_mask n b (by omega) (by omega)
  have hl1 := sigT_len (h := t) (k := k) (tID seed) (tSeed seed) (n / KK b) d1 (pubT b k (bID seed (n / KK b)) (bSeed seed (n / KK b)))
  have hl2 := sigT_len (h := b) (k := k) (bID seed (n / KK b)) (bSeed seed (n / KK b)) (n % KK b) d2 msg
  have hp := pubT_len b k (bID seed (n / KK b)) (bSeed seed (n / KK b))
  have hsz : sizeN k ≤ 100000 := by have := chainsN_le hk; unfold sizeN; omega
  have htl := isH_le ht
  rw [if_f (by rw [decide_eq_true_eq]; clear e1 e2; omega), show ((s.1, s.2.1, s.2.2.1, s.2.2.2.1, s.2.2.2.2.1, s.2.2.2.2.2) : Sg) = s from rfl, bind_some' (hkeys_eq ht hb hs), Option.bind_some, if_f (by rw [decide_eq_true_eq]; clear e1 e2; omega), hs.1, if_t (by omega), if_t (by omega), e1, e2, Option.bind_some, bind_some' hs', if_f (by simp)]
  simp only []
  rw [bind_some' (lpublic_eq hb _ _), hI.2.2.2.1, bind_some' (lsign_eq ht hk _ _ _ d1 _ (by rw [hp]; omega)), if_f (by simp), bind_some' (lsign_eq hb hk _ _ _ d2 _ hm), if_f (by simp), bind_some' (hconcat_eq _ (by simp only [List.flatten_cons, List.flatten_nil, List.length_append, List.length_nil, List.length_cons]; rw [hl1, hl2, hp]; clear e1 e2; omega) (by simp))]
  refine congrArg some (Prod.ext ?_ (Prod.ext ?_ rfl))
  · simp only []
    obtain ⟨a1, a2, a3, a4, a5, a6⟩ := s'
    have h4 := hI.2.2.2.1
    simp only [] at h4 ⊢
    rw [h4]
  · simp [hsig]
theorem hsign_spent {t b k : Nat} (ht : IsH t) (hb : IsH b) {seed : T_api_Hash} {s : Sg} (hs : IsS t b k seed s) (n : Int) (hn : n < 0 ∨ ((KK t * KK b : Nat) : Int) ≤ n) (msg : List (BitVec 8)) : hss_Signer_Sign s n msg = some (s, [], 7) := by
  unfold hss_Signer_Sign
  by_cases h0 : n < 0
  · rw [if_t (decide_eq_true h0), Option.bind_some, if_t rfl]
  · rw [if_f (by rw [decide_eq_true_eq]; exact h0), show ((s.1, s.2.1, s.2.2.1, s.2.2.2.1, s.2.2.2.2.1, s.2.2.2.2.2) : Sg) = s from rfl, bind_some' (hkeys_eq ht hb hs), Option.bind_some, if_t (by rw [decide_eq_true_eq]; omega)]
/-! ## The reference -/
theorem hrkeys_eq {t b k : Nat} (ht : IsH t) (hb : IsH b) (hk : IsKind k) : rolodexref06_Keys (t : Int) (b : Int) (k : Int) = some ((KK t * KK b : Nat) : Int) := by
  unfold rolodexref06_Keys
  obtain ⟨hK1, hK2⟩ := KK_le ht
  obtain ⟨hK3, hK4⟩ := KK_le hb
  have hm : KK t * KK b ≤ 16 * 16 := Nat.mul_le_mul hK2 hK4
  rw [bind_some' (rkeys_eq ht hk), bind_some' (rkeys_eq hb hk), show (KK t : Int) * (KK b : Int) = ((KK t * KK b : Nat) : Int) from rfl, w64_id (by omega) (by omega)]
theorem hrsign_eq {t b k : Nat} (ht : IsH t) (hb : IsH b) (hk : IsKind k) (seed : T_api_Hash) (n : Nat) (hn : n < KK t * KK b) (msg : List (BitVec 8)) (hm : msg.length ≤ 2000000000) : rolodexref06_Sign (t : Int) (b : Int) (k : Int) seed (n : Int) msg = some (hsig t b k seed n msg, 0) := by
  unfold rolodexref06_Sign
  obtain ⟨d1, d2⟩ := hdiv_lt hb hn
  obtain ⟨hK1, hK2⟩ := KK_le ht
  obtain ⟨hK3, hK4⟩ := KK_le hb
  have hm2 : KK t * KK b ≤ 16 * 16 := Nat.mul_le_mul hK2 hK4
  have hl1 := sigT_len (h := t) (k := k) (tID seed) (tSeed seed) (n / KK b) d1 (pubT b k (bID seed (n / KK b)) (bSeed seed (n / KK b)))
  have hl2 := sigT_len (h := b) (k := k) (bID seed (n / KK b)) (bSeed seed (n / KK b)) (n % KK b) d2 msg
  have hp := pubT_len b k (bID seed (n / KK b)) (bSeed seed (n / KK b))
  have hsz : sizeN k ≤ 100000 := by have := chainsN_le hk; unfold sizeN; omega
  have htl := isH_le ht
  have hbl := isH_le hb
  have e1 : w64 (Int.tdiv (n : Int) (KK b : Int)) = ((n / KK b : Nat) : Int) := by
    rw [show Int.tdiv (n : Int) (KK b : Int) = ((n / KK b : Nat) : Int) from (Int.ofNat_tdiv n (KK b)).symm]
    exact w64_nat (Nat.lt_trans d1 (by omega))
  have e2 : Int.tmod (n : Int) (KK b : Int) = ((n % KK b : Nat) : Int) := (Int.ofNat_tmod n (KK b)).symm
  rw [if_f (by rw [decide_eq_true_eq]; clear e1 e2; omega), bind_some' (hrkeys_eq ht hb hk), Option.bind_some, if_f (by rw [decide_eq_true_eq]; clear e1 e2; omega), bind_some' (rkeys_eq hb hk), if_t (by clear e1 e2; omega), bind_some' (rkeys_eq hb hk), if_t (by clear e1 e2; omega), bind_some' (rchild_top seed), e1, e2, bind_some' (rchild_bot seed _), bind_some' (rpublicT_eq hb hk _ _), bind_some' (rsignT_eq ht hk _ _ _ d1 _ (by rw [hp]; omega)), bind_some' (rsignT_eq hb hk _ _ _ d2 _ hm)]
  clear e1 e2
  simp only []
  rw [if_t (hap_ok (by rw [hl1]; simp only [List.length_cons, List.length_nil]; omega)), if_t (hap_ok (by rw [List.length_append, hl1, hp]; simp only [List.length_cons, List.length_nil]; omega)), if_t (hap_ok (by rw [List.length_append, List.length_append, hl1, hl2, hp]; simp only [List.length_cons, List.length_nil]; omega))]
  rfl
theorem hrsign_spent {t b k : Nat} (ht : IsH t) (hb : IsH b) (hk : IsKind k) (seed : T_api_Hash) (n : Int) (hn : n < 0 ∨ ((KK t * KK b : Nat) : Int) ≤ n) (msg : List (BitVec 8)) : rolodexref06_Sign (t : Int) (b : Int) (k : Int) seed n msg = some ([], 7) := by
  unfold rolodexref06_Sign
  by_cases h0 : n < 0
  · rw [if_t (decide_eq_true h0), Option.bind_some, if_t rfl]
  · rw [if_f (by rw [decide_eq_true_eq]; exact h0), bind_some' (hrkeys_eq ht hb hk), Option.bind_some, if_t (by rw [decide_eq_true_eq]; omega)]
end Go.Sl.Pu
