import Derived.Test.YtheldkljmefbaaaGreatDoorPhs1
set_option linter.unusedSimpArgs false
set_option linter.unusedVariables false
set_option maxRecDepth 20000
/-! Signers: verifying, and the laws. -/
namespace Go.Sl.Pu
open Go.Sl Go.Sl.M
attribute [local irreducible] sha w64 pubk und sigk ndh recov val hat tagged pubT sigT idat nodesS vrf hsig hpub n4
/-- How long a tree's signature is. -/
def tN (p : List (BitVec 8)) : Nat := 8 + sizeN (n4 p 8) + 32 * n4 p 4
def okP (p : List (BitVec 8)) : Prop := (1 ≤ n4 p 4 ∧ n4 p 4 ≤ 4) ∧ (1 ≤ n4 p 8 ∧ n4 p 8 ≤ 4)
instance (p : List (BitVec 8)) : Decidable (okP p) := by unfold okP; infer_instance
def hvrf (p msg sig : List (BitVec 8)) : Bool :=
  decide (p.length = 60 ∧ n4 p 0 = 2 ∧ 4 ≤ sig.length ∧ n4 sig 0 = 1 ∧ okP p ∧ 60 + tN p ≤ sig.length ∧ vrf (p.drop 4) ((sig.drop (4 + tN p)).take 56) ((sig.drop 4).take (tN p)) = true ∧ vrf ((sig.drop (4 + tN p)).take 56) msg (sig.drop (60 + tN p)) = true)
theorem n4_drop (p : List (BitVec 8)) (i j : Nat) : n4 (p.drop i) j = n4 p (i + j) := by
  with_unfolding_all
  unfold n4
  rw [List.drop_drop]
theorem vrf_no {p msg sig : List (BitVec 8)} (h : ¬ ((1 ≤ n4 p 0 ∧ n4 p 0 ≤ 4) ∧ (1 ≤ n4 p 4 ∧ n4 p 4 ≤ 4))) : vrf p msg sig = false := by
  unfold vrf
  rw [decide_eq_false (fun hc => h ⟨hc.2.1, hc.2.2.1⟩)]
theorem n4_32 (b : List (BitVec 8)) (i c : Nat) (hc : c < 4294967296) : (decide ((val ((b.drop i).take 4)).setWidth 32 = BitVec.ofNat 32 c)) = decide (n4 b i = c) := by
  have h := n4_w b i
  simp only [decide_eq_decide]
  constructor
  · intro hh
    rw [hh, BitVec.toNat_ofNat, Nat.mod_eq_of_lt (by omega)] at h
    omega
  · intro hh
    apply BitVec.eq_of_toNat_eq
    rw [BitVec.toNat_ofNat, Nat.mod_eq_of_lt (by omega)]
    omega
theorem tN_le {p : List (BitVec 8)} (h : okP p) : tN p ≤ 200000 := by
  have hk : IsKind (n4 p 8) := by unfold IsKind; have := h.2; omega
  have := chainsN_le hk
  have := h.1
  unfold tN sizeN; omega
theorem hverify_eq (p msg sig : List (BitVec 8)) (hp : p.length ≤ 2000000000) (hm : msg.length ≤ 2000000000) (hs : sig.length ≤ 2000000000) : hss_Verify p msg sig = some (hvrf p msg sig) := by
  unfold hss_Verify
  by_cases hl : p.length = 60
  · have r1 := rU32_at p 0 (by omega)
    have r2 := rU32_at p 4 (by omega)
    have r3 := rU32_at p 8 (by omega)
    rw [if_f (by simp [hl]), bind_some' (rNew_eq p (by omega))]
    simp only []
    rw [show wire_Reader_U32 (p, false) = _ from r1, Option.bind_some]
    simp only []
    rw [n4_32 p 0 2 (by omega)]
    by_cases h2 : n4 p 0 = 2
    · rw [if_f (by rw [decide_eq_true h2]; decide), show wire_Reader_U32 (p.drop (0 + 4), false) = _ from r2, Option.bind_some]
      simp only []
      rw [show wire_Reader_U32 (p.drop (4 + 4), false) = _ from r3, Option.bind_some, bind_some' (rNew_eq sig (by omega))]
      simp only []
      have e1 : (((val (List.take 4 (List.drop 4 p))).setWidth 32).toNat : Int) = (n4 p 4 : Int) := n4_w p 4
      have e2 : (((val (List.take 4 (List.drop 8 p))).setWidth 32).toNat : Int) = (n4 p 8 : Int) := n4_w p 8
      rw [e1, e2]
      by_cases h4 : 4 ≤ sig.length
      · have r4 := rU32_at sig 0 (by omega)
        rw [show wire_Reader_U32 (sig, false) = _ from r4, Option.bind_some]
        simp only []
        rw [n4_32 sig 0 1 (by omega)]
        by_cases h5 : n4 sig 0 = 1
        · rw [if_f (by rw [decide_eq_true h5]; decide)]
          by_cases hk : okP p
          · have hh : IsH (n4 p 4) := by have := hk.1; unfold IsH; omega
            have hkk : IsKind (n4 p 8) := by have := hk.2; unfold IsKind; omega
            have htn := tN_le hk
            rw [bind_some' (lsize_eq hh hkk)]
            have ht : 8 + sizeN (n4 p 8) + 32 * n4 p 4 = tN p := rfl
            rw [ht]
            clear ht
            by_cases h6 : 4 + tN p ≤ sig.length
            · have r5 := rPlain_at sig 4 (tN p) h6
              rw [show wire_Reader_Plain (sig.drop (0 + 4), false) (tN p : Int) = _ from r5, Option.bind_some]
              simp only []
              by_cases h7 : 60 + tN p ≤ sig.length
              · have r6 : wire_Reader_Plain (sig.drop (4 + tN p), false) (56 : Int) = _ := rPlain_at sig (4 + tN p) 56 (by omega)
                rw [bind_some' r6]
                simp only []
                have hln : (sig.drop (4 + tN p + 56)).length = sig.length - (60 + tN p) := by rw [List.length_drop]; omega
                have r7 := rPlain_at sig (4 + tN p + 56) (sig.drop (4 + tN p + 56)).length (by omega)
                have hL : wire_Reader_Left (sig.drop (4 + tN p + 56), false) = some ((sig.drop (4 + tN p + 56)).length : Int) := rfl
                rw [bind_some' hL, bind_some' r7]
                simp only []
                have hF : wire_Reader_Fails (sig.drop (4 + tN p + 56 + (sig.drop (4 + tN p + 56)).length), false) = some false := rfl
                have s1 : lslice p (4 : Int) (p.length : Int) = some (p.drop 4) := by rw [lslice_at (lo := (4 : Int)) (a := 4) rfl rfl (by omega) (Nat.le_refl _), List.take_length]
                rw [bind_some' hF, if_t (by rfl), bind_some' s1, List.take_length, show 4 + tN p + 56 = 60 + tN p by omega]
                have q1 : (p.drop 4).length ≤ 4000000000 := by rw [List.length_drop]; omega
                have q2 : ((sig.drop (4 + tN p)).take 56).length ≤ 2000000000 := by rw [List.length_take]; omega
                have q3 : ((sig.drop 4).take (tN p)).length ≤ 2000000000 := by rw [List.length_take]; omega
                have q4 : (sig.drop (60 + tN p)).length ≤ 2000000000 := by rw [List.length_drop]; omega
                have q5 : ((sig.drop (4 + tN p)).take 56).length ≤ 4000000000 := by rw [List.length_take]; omega
                rw [bind_some' (lverify_eq _ _ _ q1 q2 q3), Option.bind_some]
                by_cases v1 : vrf (p.drop 4) ((sig.drop (4 + tN p)).take 56) ((sig.drop 4).take (tN p)) = true
                · rw [if_t v1, bind_some' (lverify_eq _ _ _ q5 hm q4), Option.bind_some]
                  refine congrArg some ?_
                  unfold hvrf
                  by_cases v2 : vrf ((sig.drop (4 + tN p)).take 56) msg (sig.drop (60 + tN p)) = true
                  · exact v2.trans (decide_eq_true ⟨hl, h2, h4, h5, hk, h7, v1, v2⟩).symm
                  · rw [decide_eq_false (fun hc => v2 hc.2.2.2.2.2.2.2)]
                    simpa using v2
                · rw [if_f v1, Option.bind_some]
                  refine congrArg some ?_
                  unfold hvrf
                  rw [decide_eq_false (fun hc => v1 hc.2.2.2.2.2.2.1)]
              · have r6 : wire_Reader_Plain (sig.drop (4 + tN p), false) (56 : Int) = some ((sig.drop (4 + tN p), true), []) := rPlain_short _ _ (by right; rw [List.length_drop]; omega)
                rw [bind_some' r6]
                simp only []
                have hL : wire_Reader_Left (sig.drop (4 + tN p), true) = some ((sig.drop (4 + tN p)).length : Int) := rfl
                rw [bind_some' hL, bind_some' (rPlain_failed _ _)]
                simp only []
                have hF : wire_Reader_Fails (sig.drop (4 + tN p), true) = some true := rfl
                rw [bind_some' hF, if_f (by decide), Option.bind_some, if_f (by decide), Option.bind_some]
                refine congrArg some ?_
                unfold hvrf
                rw [decide_eq_false (fun hc => h7 hc.2.2.2.2.2.1)]
            · have r5 : wire_Reader_Plain (sig.drop (0 + 4), false) (tN p : Int) = some ((sig.drop (0 + 4), true), []) := rPlain_short _ _ (by right; rw [List.length_drop]; omega)
              rw [bind_some' r5]
              simp only []
              rw [bind_some' (rPlain_failed _ _)]
              simp only []
              have hL : wire_Reader_Left (sig.drop (0 + 4), true) = some ((sig.drop (0 + 4)).length : Int) := rfl
              rw [bind_some' hL, bind_some' (rPlain_failed _ _)]
              simp only []
              have hF : wire_Reader_Fails (sig.drop (0 + 4), true) = some true := rfl
              rw [bind_some' hF, if_f (by decide), Option.bind_some, if_f (by decide), Option.bind_some]
              refine congrArg some ?_
              unfold hvrf
              rw [decide_eq_false (fun hc => h6 (by have := hc.2.2.2.2.2.1; omega))]
          · have hv : hvrf p msg sig = false := by unfold hvrf; rw [decide_eq_false (fun hc => hk hc.2.2.2.2.1)]
            rw [hv, bind_some' (lsize_no (by unfold okP at hk; omega))]
            have r5 : wire_Reader_Plain (sig.drop (0 + 4), false) (0 : Int) = some ((sig.drop (4 + 0), false), (sig.drop 4).take 0) := rPlain_at sig 4 0 (by omega)
            rw [bind_some' r5]
            simp only []
            by_cases h7 : 60 ≤ sig.length
            · have r6 : wire_Reader_Plain (sig.drop (4 + 0), false) (56 : Int) = _ := rPlain_at sig 4 56 (by omega)
              rw [bind_some' r6]
              simp only []
              have hln : (sig.drop (4 + 56)).length = sig.length - 60 := by rw [List.length_drop]
              have r7 := rPlain_at sig (4 + 56) (sig.drop (4 + 56)).length (by omega)
              have hL : wire_Reader_Left (sig.drop (4 + 56), false) = some ((sig.drop (4 + 56)).length : Int) := rfl
              rw [bind_some' hL, bind_some' r7]
              simp only []
              have hF : wire_Reader_Fails (sig.drop (4 + 56 + (sig.drop (4 + 56)).length), false) = some false := rfl
              have s1 : lslice p (4 : Int) (p.length : Int) = some (p.drop 4) := by rw [lslice_at (lo := (4 : Int)) (a := 4) rfl rfl (by omega) (Nat.le_refl _), List.take_length]
              have q1 : (p.drop 4).length ≤ 4000000000 := by rw [List.length_drop]; omega
              have q2 : ((sig.drop 4).take 56).length ≤ 2000000000 := by rw [List.length_take]; omega
              have q3 : ((sig.drop 4).take 0).length ≤ 2000000000 := by rw [List.length_take]; omega
              have hvn : vrf (p.drop 4) ((sig.drop 4).take 56) ((sig.drop 4).take 0) = false := vrf_no (by rw [n4_drop, n4_drop]; exact hk)
              rw [bind_some' hF, if_t (by rfl), bind_some' s1, bind_some' (lverify_eq _ _ _ q1 q2 q3), hvn, Option.bind_some, if_f (by decide), Option.bind_some]
            · have r6 : wire_Reader_Plain (sig.drop (4 + 0), false) (56 : Int) = some ((sig.drop (4 + 0), true), []) := rPlain_short _ _ (by right; rw [List.length_drop]; omega)
              rw [bind_some' r6]
              simp only []
              have hL : wire_Reader_Left (sig.drop (4 + 0), true) = some ((sig.drop (4 + 0)).length : Int) := rfl
              rw [bind_some' hL, bind_some' (rPlain_failed _ _)]
              simp only []
              have hF : wire_Reader_Fails (sig.drop (4 + 0), true) = some true := rfl
              rw [bind_some' hF, if_f (by decide), Option.bind_some, if_f (by decide), Option.bind_some]
        · rw [if_t (by rw [decide_eq_false h5]; rfl)]
          refine congrArg some ?_
          unfold hvrf
          rw [decide_eq_false (fun hc => h5 hc.2.2.2.1)]
      · rw [bind_some' (rU32_short sig (by omega)), if_t (by simp)]
        refine congrArg some ?_
        unfold hvrf
        rw [decide_eq_false (fun hc => h4 hc.2.2.1)]
    · rw [if_t (by rw [decide_eq_false h2]; rfl)]
      refine congrArg some ?_
      unfold hvrf
      rw [decide_eq_false (fun hc => h2 hc.2.1)]
  · rw [if_t (by simp; omega)]
    refine congrArg some ?_
    unfold hvrf
    rw [decide_eq_false (fun hc => hl hc.1)]
/-! ## What was signed is right -/
theorem be2_4 : be (BitVec.ofNat 32 2) 4 = [0#8, 0#8, 0#8, 2#8] := by decide
theorem be1_4 : be (BitVec.ofNat 32 1) 4 = [0#8, 0#8, 0#8, 1#8] := by decide
theorem hpub_parts {t k : Nat} (ht : IsH t) (hk : IsKind k) (seed : T_api_Hash) : n4 (hpub t k seed) 0 = 2 ∧ n4 (hpub t k seed) 4 = t ∧ n4 (hpub t k seed) 8 = k ∧ (hpub t k seed).drop 4 = pubT t k (tID seed) (tSeed seed) := by
  obtain ⟨p1, p2, p3, p4⟩ := pubT_parts ht hk (tID seed) (tSeed seed)
  have hd : (hpub t k seed).drop 4 = pubT t k (tID seed) (tSeed seed) := by unfold hpub; rfl
  refine ⟨?_, ?_, ?_, hd⟩
  · have := n4_mid [] (pubT t k (tID seed) (tSeed seed)) 2 0 (by omega) rfl
    unfold hpub
    rw [be2_4] at this
    exact this
  · rw [← n4_drop _ 4 0, hd, p1]
  · rw [← n4_drop _ 4 4, hd, p2]
theorem hsig_parts {t b k : Nat} (hb : IsH b) (seed : T_api_Hash) (n : Nat) (hn : n < KK t * KK b) (msg more : List (BitVec 8)) :
    n4 (hsig t b k seed n msg ++ more) 0 = 1 ∧ ((hsig t b k seed n msg ++ more).drop 4).take (8 + sizeN k + 32 * t) = sigT t k (tID seed) (tSeed seed) (n / KK b) (pubT b k (bID seed (n / KK b)) (bSeed seed (n / KK b))) ∧
    ((hsig t b k seed n msg ++ more).drop (4 + (8 + sizeN k + 32 * t))).take 56 = pubT b k (bID seed (n / KK b)) (bSeed seed (n / KK b)) ∧ (hsig t b k seed n msg ++ more).drop (60 + (8 + sizeN k + 32 * t)) = sigT b k (bID seed (n / KK b)) (bSeed seed (n / KK b)) (n % KK b) msg ++ more := by
  obtain ⟨d1, d2⟩ := hdiv_lt hb hn
  have l1 := sigT_len (h := t) (k := k) (tID seed) (tSeed seed) (n / KK b) d1 (pubT b k (bID seed (n / KK b)) (bSeed seed (n / KK b)))
  have hp := pubT_len b k (bID seed (n / KK b)) (bSeed seed (n / KK b))
  unfold hsig
  generalize sigT t k (tID seed) (tSeed seed) (n / KK b) (pubT b k (bID seed (n / KK b)) (bSeed seed (n / KK b))) = A at l1 ⊢
  generalize sigT b k (bID seed (n / KK b)) (bSeed seed (n / KK b)) (n % KK b) msg = C
  generalize pubT b k (bID seed (n / KK b)) (bSeed seed (n / KK b)) = B at hp ⊢
  generalize 8 + sizeN k + 32 * t = N at l1 ⊢
  rw [← be1_4]
  refine ⟨?_, ?_, ?_, ?_⟩
  · have := n4_mid [] (((A ++ B) ++ C) ++ more) 1 0 (by omega) rfl
    simpa [List.append_assoc] using this
  · rw [List.append_assoc, List.append_assoc, List.append_assoc, List.drop_left' (be_len _ _), List.take_left' l1]
  · rw [List.append_assoc, List.append_assoc, List.drop_left' (by rw [List.length_append, be_len, l1]), List.take_left' hp]
  · rw [List.append_assoc, List.drop_left' (by rw [List.length_append, List.length_append, be_len, l1, hp]; omega)]
theorem hvrf_more {t b k : Nat} (ht : IsH t) (hb : IsH b) (hk : IsKind k) (seed : T_api_Hash) (n : Nat) (hn : n < KK t * KK b) (msg more : List (BitVec 8)) :
    hvrf (hpub t k seed) msg (hsig t b k seed n msg ++ more) = vrf (pubT b k (bID seed (n / KK b)) (bSeed seed (n / KK b))) msg (sigT b k (bID seed (n / KK b)) (bSeed seed (n / KK b)) (n % KK b) msg ++ more) := by
  obtain ⟨d1, d2⟩ := hdiv_lt hb hn
  obtain ⟨p1, p2, p3, p4⟩ := hpub_parts ht hk seed
  obtain ⟨s1, s2, s3, s4⟩ := hsig_parts (t := t) (k := k) hb seed n hn msg more
  have hl := hsig_len (t := t) (k := k) hb seed n hn msg
  have ht1 := isH_le ht
  have hk1 := isK_le hk
  have htn : tN (hpub t k seed) = 8 + sizeN k + 32 * t := by unfold tN; rw [p2, p3]
  unfold hvrf
  rw [htn, s1, s2, s3, s4, p4, p1, hpub_len]
  have hok : okP (hpub t k seed) := by unfold okP; rw [p2, p3]; omega
  have hr := vrf_right ht hk (tID seed) (tSeed seed) (n / KK b) d1 (pubT b k (bID seed (n / KK b)) (bSeed seed (n / KK b)))
  by_cases v : vrf (pubT b k (bID seed (n / KK b)) (bSeed seed (n / KK b))) msg (sigT b k (bID seed (n / KK b)) (bSeed seed (n / KK b)) (n % KK b) msg ++ more) = true
  · rw [v, decide_eq_true ⟨rfl, rfl, by rw [List.length_append]; omega, rfl, hok, by rw [List.length_append]; omega, hr, rfl⟩]
  · rw [decide_eq_false (fun hc => v hc.2.2.2.2.2.2.2)]
    simpa using v
theorem hvrf_right {t b k : Nat} (ht : IsH t) (hb : IsH b) (hk : IsKind k) (seed : T_api_Hash) (n : Nat) (hn : n < KK t * KK b) (msg : List (BitVec 8)) : hvrf (hpub t k seed) msg (hsig t b k seed n msg) = true := by
  obtain ⟨d1, d2⟩ := hdiv_lt hb hn
  have := hvrf_more ht hb hk seed n hn msg []
  rw [List.append_nil, List.append_nil] at this
  rw [this]
  exact vrf_right hb hk _ _ _ d2 msg
end Go.Sl.Pu
