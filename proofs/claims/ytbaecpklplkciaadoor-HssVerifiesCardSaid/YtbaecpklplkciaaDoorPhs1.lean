import Derived.Test.YtbaecpklplkciaaDoorPhs0
set_option linter.unusedSimpArgs false
set_option linter.unusedVariables false
set_option maxRecDepth 20000
/-! Signers: two storeys of trees. -/
namespace Go.Sl.Pu
open Go.Sl Go.Sl.M
attribute [local irreducible] sha w64 pubk und sigk ndh recov val hat tagged pubT sigT idat nodesS vrf
def tID (seed : T_api_Hash) : T_api_ID := idat (tagged 105#8 [seed.toList]).toList 0
def tSeed (seed : T_api_Hash) : T_api_Hash := tagged 115#8 [seed.toList]
def bID (seed : T_api_Hash) (i : Nat) : T_api_ID := idat (tagged 105#8 [seed.toList, be (BitVec.ofNat 32 i) 4]).toList 0
def bSeed (seed : T_api_Hash) (i : Nat) : T_api_Hash := tagged 115#8 [seed.toList, be (BitVec.ofNat 32 i) 4]
theorem sl16 (x : T_api_Hash) : lslice x.toList 0 (16 : Int) = some ((x.toList.drop 0).take 16) := by
  rw [lslice_at (lo := (0 : Int)) (hi := (16 : Int)) (a := 0) (b := 16) rfl rfl (by omega) (by simp), List.drop_zero, List.drop_zero]
theorem child_top (seed : T_api_Hash) : hss_child seed [] = some (tID seed, tSeed seed) := by
  unfold hss_child
  rw [if_f (by simp), Option.bind_some, bind_some' (tagged_eq _ _ (by simp [tsize])), bind_some' (sl16 _), bind_some' (idat_eq _ 0 (by simp)), bind_some' (tagged_eq _ _ (by simp [tsize]))]
  rfl
/-! ## The signer -/
abbrev Sg : Type := Int × Int × T_api_Hash × (Option T_lms_Tree) × (Option T_lms_Tree) × Int
/-- The signer of two heights, a kind and a seed, whichever tree it used last. -/
def IsS (t b k : Nat) (seed : T_api_Hash) (s : Sg) : Prop :=
  s.1 = (b : Int) ∧ s.2.1 = (k : Int) ∧ s.2.2.1 = seed ∧ s.2.2.2.1 = trS t k (tID seed) (tSeed seed) ∧ (s.2.2.2.2.2 = -1 ∨ ∃ i : Nat, i < KK t ∧ s.2.2.2.2.2 = (i : Int) ∧ s.2.2.2.2.1 = trS b k (bID seed i) (bSeed seed i))
theorem hnew_eq {t b k : Nat} (ht : IsH t) (hb : IsH b) (hk : IsKind k) (seed : T_api_Hash) : ∃ s : Sg, hss_New (t : Int) (b : Int) (k : Int) seed = some (some s, 0) ∧ IsS t b k seed s := by
  refine ⟨((b : Int), (k : Int), seed, trS t k (tID seed) (tSeed seed), none, -1), ?_, rfl, rfl, rfl, rfl, .inl rfl⟩
  unfold hss_New
  rw [bind_some' (lsize_eq hb hk), if_f (by rw [decide_eq_true_eq]; omega), bind_some' (child_top seed), bind_some' (lnew_eq ht hk _ _), if_f (by simp), Option.bind_some]
theorem hkeys_eq {t b k : Nat} (ht : IsH t) (hb : IsH b) {seed : T_api_Hash} {s : Sg} (hs : IsS t b k seed s) : hss_Signer_Keys s = some ((KK t * KK b : Nat) : Int) := by
  unfold hss_Signer_Keys
  obtain ⟨h1, h2, h3, h4, h5⟩ := hs
  have hb1 := isH_le hb
  obtain ⟨hK1, hK2⟩ := KK_le ht
  obtain ⟨hK3, hK4⟩ := KK_le hb
  have hm : KK t * KK b ≤ 16 * 16 := Nat.mul_le_mul hK2 hK4
  rw [h4, bind_some' (lkeys_eq ht _ _), h1, if_t (by omega), ishl_nat (KK t) b (by omega) (by show KK t * KK b < _; omega)]
  rfl
def hpub (t k : Nat) (seed : T_api_Hash) : List (BitVec 8) := [0#8, 0#8, 0#8, 2#8] ++ pubT t k (tID seed) (tSeed seed)
theorem hpub_len (t k : Nat) (seed : T_api_Hash) : (hpub t k seed).length = 60 := by unfold hpub; rw [List.length_append, pubT_len]; rfl
theorem hpublic_eq {t b k : Nat} (ht : IsH t) {seed : T_api_Hash} {s : Sg} (hs : IsS t b k seed s) : hss_Signer_Public s = some (hpub t k seed) := by
  unfold hss_Signer_Public
  rw [hs.2.2.2.1, bind_some' (lpublic_eq ht _ _), bind_some' (hconcat_eq _ (by simp [pubT_len]) (by simp))]
  simp [hpub]
def hsig (t b k : Nat) (seed : T_api_Hash) (n : Nat) (msg : List (BitVec 8)) : List (BitVec 8) :=
  (([0#8, 0#8, 0#8, 1#8] ++ sigT t k (tID seed) (tSeed seed) (n / KK b) (pubT b k (bID seed (n / KK b)) (bSeed seed (n / KK b)))) ++ pubT b k (bID seed (n / KK b)) (bSeed seed (n / KK b))) ++ sigT b k (bID seed (n / KK b)) (bSeed seed (n / KK b)) (n % KK b) msg
/-! ## The reference -/
theorem awake06 : rolodexlaw06_awake = some true := by
  unfold rolodexlaw06_awake
  have h1 : IsH 1 := Or.inl rfl
  have h2 : IsKind 2 := Or.inr (Or.inl rfl)
  obtain ⟨s, hs, hI⟩ := hnew_eq h1 h1 h2 (Vector.replicate 32 (0#8))
  have hs' : hss_New (1 : Int) (1 : Int) (2 : Int) (Vector.replicate 32 (0#8)) = _ := hs
  rw [bind_some' hs']
  simp only []
  rw [Option.bind_some, if_t (by simp), show ((s.1, s.2.1, s.2.2.1, s.2.2.2.1, s.2.2.2.2.1, s.2.2.2.2.2) : Sg) = s from rfl, bind_some' (hkeys_eq h1 h1 hI), Option.bind_some, if_t (by with_unfolding_all rfl), bind_some' (hpublic_eq h1 hI), Option.bind_some, hpub_len]
  rfl
end Go.Sl.Pu
