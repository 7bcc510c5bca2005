import Derived.Test.YtbaecpklplkciaaDoorPhs2
set_option linter.unusedSimpArgs false
set_option linter.unusedVariables false
set_option maxRecDepth 20000
/-! Signers: keys. -/
namespace Go.Sl.Pu
open Go.Sl Go.Sl.M
attribute [local irreducible] sha w64 tagged pubT sigT idat nodesS hsig hpub
theorem hsizeK_eq {t b k : Nat} (ht : IsH t) (hb : IsH b) (hk : IsKind k) : hss_Size (t : Int) (b : Int) (k : Int) = some ((4 + (8 + sizeN k + 32 * t) + 56 + (8 + sizeN k + 32 * b) : Nat) : Int) := by
  unfold hss_Size
  have hsz : sizeN k ≤ 100000 := by have := chainsN_le hk; unfold sizeN; omega
  have h1 := isH_le ht
  have h2 := isH_le hb
  rw [bind_some' (lsize_eq ht hk), bind_some' (lsize_eq hb hk), if_f (by rw [decide_eq_true_eq]; omega), Option.bind_some, if_f (by rw [decide_eq_true_eq]; omega), Option.bind_some]
  have w : ∀ A B : Nat, A ≤ 1000000 → B ≤ 1000000 → w64 (w64 (w64 ((4 : Int) + (A : Int)) + 56) + (B : Int)) = ((4 + A + 56 + B : Nat) : Int) := fun A B ha hb => by
    rw [w64_id (n := 4 + (A : Int)) (by omega) (by omega), w64_id (n := 4 + (A : Int) + 56) (by omega) (by omega), w64_id (by omega) (by omega)]; omega
  rw [w _ _ (by omega) (by omega)]
theorem hrsize_eq {t b k : Nat} (ht : IsH t) (hb : IsH b) (hk : IsKind k) : rolodexref06_Size (t : Int) (b : Int) (k : Int) = some ((4 + (8 + sizeN k + 32 * t) + 56 + (8 + sizeN k + 32 * b) : Nat) : Int) := by
  unfold rolodexref06_Size
  have hsz : sizeN k ≤ 100000 := by have := chainsN_le hk; unfold sizeN; omega
  have h1 := isH_le ht
  have h2 := isH_le hb
  obtain ⟨hK1, hK2⟩ := KK_le ht
  obtain ⟨hK3, hK4⟩ := KK_le hb
  have hm2 : 2 * 2 ≤ KK t * KK b := Nat.mul_le_mul hK1 hK3
  rw [bind_some' (hrkeys_eq ht hb hk), if_f (by rw [decide_eq_true_eq]; omega), bind_some' (rsizeT_eq ht hk), bind_some' (rsizeT_eq hb hk), Option.bind_some]
  have w : ∀ A B : Nat, A ≤ 1000000 → B ≤ 1000000 → w64 (w64 (w64 ((4 : Int) + (A : Int)) + 56) + (B : Int)) = ((4 + A + 56 + B : Nat) : Int) := fun A B ha hb => by
    rw [w64_id (n := 4 + (A : Int)) (by omega) (by omega), w64_id (n := 4 + (A : Int) + 56) (by omega) (by omega), w64_id (by omega) (by omega)]; omega
  rw [w _ _ (by omega) (by omega)]
theorem hsize_no {t b k : Int} (h : ¬ (((1 ≤ t ∧ t ≤ 4) ∧ (1 ≤ b ∧ b ≤ 4)) ∧ (1 ≤ k ∧ k ≤ 4))) : hss_Size t b k = some 0 := by
  unfold hss_Size
  by_cases h1 : (1 ≤ t ∧ t ≤ 4) ∧ (1 ≤ k ∧ k ≤ 4)
  · have h2 : ¬ ((1 ≤ b ∧ b ≤ 4) ∧ (1 ≤ k ∧ k ≤ 4)) := fun hc => h ⟨⟨h1.1, hc.1⟩, hc.2⟩
    obtain ⟨t, rfl, ht⟩ := isH_of h1.1
    obtain ⟨k, rfl, hk⟩ := kind_of h1.2
    rw [bind_some' (lsize_eq ht hk), bind_some' (lsize_no h2), if_f (by rw [decide_eq_true_eq]; omega), Option.bind_some, if_t (by simp)]
  · rw [bind_some' (lsize_no h1)]
    by_cases h2 : (1 ≤ b ∧ b ≤ 4) ∧ (1 ≤ k ∧ k ≤ 4)
    · obtain ⟨b, rfl, hb⟩ := isH_of h2.1
      obtain ⟨k, rfl, hk⟩ := kind_of h2.2
      rw [bind_some' (lsize_eq hb hk), if_t (by simp), Option.bind_some, if_t rfl]
    · rw [bind_some' (lsize_no h2), if_t (by simp), Option.bind_some, if_t rfl]
theorem hrsize_no {t b k : Int} (h : ¬ (((1 ≤ t ∧ t ≤ 4) ∧ (1 ≤ b ∧ b ≤ 4)) ∧ (1 ≤ k ∧ k ≤ 4))) : rolodexref06_Size t b k = some 0 := by
  unfold rolodexref06_Size
  rw [bind_some' (hrkeys_no h), if_t (by simp)]
theorem hrpublic_eq {t k : Nat} (ht : IsH t) (hk : IsKind k) (seed : T_api_Hash) : rolodexref06_Public (t : Int) (k : Int) seed = some (hpub t k seed) := by
  unfold rolodexref06_Public
  rw [bind_some' (rchild_top seed), bind_some' (rpublicT_eq ht hk _ _), if_t (hap_ok (by rw [pubT_len]; simp))]
  unfold hpub
  rfl
theorem hnew_no {t b k : Int} (h : ¬ (((1 ≤ t ∧ t ≤ 4) ∧ (1 ≤ b ∧ b ≤ 4)) ∧ (1 ≤ k ∧ k ≤ 4))) (seed : T_api_Hash) : hss_New t b k seed = some (none, 1) := by
  unfold hss_New
  by_cases h2 : (1 ≤ b ∧ b ≤ 4) ∧ (1 ≤ k ∧ k ≤ 4)
  · have h1 : ¬ ((1 ≤ t ∧ t ≤ 4) ∧ (1 ≤ k ∧ k ≤ 4)) := fun hc => h ⟨⟨hc.1, h2.1⟩, hc.2⟩
    obtain ⟨b, rfl, hb⟩ := isH_of h2.1
    obtain ⟨k, rfl, hk⟩ := kind_of h2.2
    rw [bind_some' (lsize_eq hb hk), if_f (by rw [decide_eq_true_eq]; omega), bind_some' (child_top seed), bind_some' (lnew_no h1 _ _), if_t (by simp)]
  · rw [bind_some' (lsize_no h2), if_t (by simp)]
theorem hssKeys (f : T_rolodexlaw06_Form) : rolodexlaw06_HssKeys f = some true := by
  obtain ⟨t, b, k, seed⟩ := f
  unfold rolodexlaw06_HssKeys
  simp only []
  rw [bind_some' awake06, if_f (by decide)]
  by_cases hv : ((1 ≤ t ∧ t ≤ 4) ∧ (1 ≤ b ∧ b ≤ 4)) ∧ (1 ≤ k ∧ k ≤ 4)
  · obtain ⟨t, rfl, ht⟩ := isH_of hv.1.1
    obtain ⟨b, rfl, hb⟩ := isH_of hv.1.2
    obtain ⟨k, rfl, hk⟩ := kind_of hv.2
    obtain ⟨hK1, hK2⟩ := KK_le ht
    obtain ⟨hK3, hK4⟩ := KK_le hb
    have hm2 : 2 * 2 ≤ KK t * KK b := Nat.mul_le_mul hK1 hK3
    rw [bind_some' (hsizeK_eq ht hb hk), bind_some' (hrsize_eq ht hb hk), Option.bind_some, if_f (by simp), bind_some' (hrkeys_eq ht hb hk), if_t (by rw [decide_eq_true_eq]; omega), bind_some' (hsmall_eq _), Option.bind_some]
    by_cases hsm : (t : Int) ≤ 2 ∧ (b : Int) ≤ 2 ∧ (k : Int) ≤ 3
    · obtain ⟨s, hs, hI⟩ := hnew_eq ht hb hk seed
      rw [if_f (by simp only []; rw [decide_eq_true hsm]; decide), bind_some' hs]
      unfold optE
      simp only []
      rw [if_f (by rw [decide_eq_true_eq]; omega), if_t (by simp), show ((s.1, s.2.1, s.2.2.1, s.2.2.2.1, s.2.2.2.2.1, s.2.2.2.2.2) : Sg) = s from rfl, bind_some' (hkeys_eq ht hb hI), Option.bind_some, if_t (by simp), bind_some' (hpublic_eq ht hI), bind_some' (hrpublic_eq ht hk seed), bind_some' (same_eq _ _ (by rw [hpub_len]; omega)), Option.bind_some, decide_eq_true rfl]
    · rw [if_t (by simp only []; rw [decide_eq_false hsm]; rfl)]
  · rw [bind_some' (hsize_no hv), bind_some' (hrsize_no hv), Option.bind_some, if_f (by simp), bind_some' (hrkeys_no hv), if_f (by simp), Option.bind_some, if_f (by decide), bind_some' (hnew_no hv seed)]
    unfold optE
    simp only []
    rw [if_t (by simp), if_t (by simp), Option.bind_some]
end Go.Sl.Pu
