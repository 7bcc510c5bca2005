import Derived.Test.YtbaecpklplkciaaDoorPhs1
set_option linter.unusedSimpArgs false
set_option linter.unusedVariables false
set_option maxRecDepth 20000
/-! Signers: verifying, and the laws. -/
namespace Go.Sl.Pu
open Go.Sl Go.Sl.M
attribute [local irreducible] sha w64 pubk und sigk ndh recov val hat tagged pubT sigT idat nodesS vrf hsig hpub n4
/-- How long a tree's signature is. -/
def tN (p : List (BitVec 8)) : Nat := 8 + sizeN (n4 p 8) + 32 * n4 p 4
def okP (p : List (BitVec 8)) : Prop := (1 ≤ n4 p 4 ∧ n4 p 4 ≤ 4) ∧ (1 ≤ n4 p 8 ∧ n4 p 8 ≤ 4)
instance (p : List (BitVec 8)) : Decidable (okP p) := by unfold okP; infer_instance
def hvrf (p msg sig : List (BitVec 8)) : Bool :=
  decide (p.length = 60 ∧ n4 p 0 = 2 ∧ 4 ≤ sig.length ∧ n4 sig 0 = 1 ∧ okP p ∧ 60 + tN p ≤ sig.length ∧ vrf (p.drop 4) ((sig.drop (4 + tN p)).take 56) ((sig.drop 4).take (tN p)) = true ∧ vrf ((sig.drop (4 + tN p)).take 56) msg (sig.drop (60 + tN p)) = true)
theorem n4_drop (p : List (BitVec 8)) (i j : Nat) : n4 (p.drop i) j = n4 p (i + j) := by
  with_unfolding_all
  unfold n4
  rw [List.drop_drop]
theorem vrf_no {p msg sig : List (BitVec 8)} (h : ¬ ((1 ≤ n4 p 0 ∧ n4 p 0 ≤ 4) ∧ (1 ≤ n4 p 4 ∧ n4 p 4 ≤ 4))) : vrf p msg sig = false := by
  unfold vrf
  rw [decide_eq_false (fun hc => h ⟨hc.2.1, hc.2.2.1⟩)]
theorem n4_32 (b : List (BitVec 8)) (i c : Nat) (hc : c < 4294967296) : (decide ((val ((b.drop i).take 4)).setWidth 32 = BitVec.ofNat 32 c)) = decide (n4 b i = c) := by
  have h := n4_w b i
  simp only [decide_eq_decide]
  constructor
  · intro hh
    rw [hh, BitVec.toNat_ofNat, Nat.mod_eq_of_lt (by omega)] at h
    omega
  · intro hh
    apply BitVec.eq_of_toNat_eq
    rw [BitVec.toNat_ofNat, Nat.mod_eq_of_lt (by omega)]
    omega
theorem tN_le {p : List (BitVec 8)} (h : okP p) : tN p ≤ 200000 := by
  have hk : IsKind (n4 p 8) := by unfold IsKind; have := h.2; omega
  have := chainsN_le hk
  have := h.1
  unfold tN sizeN; omega
theorem hverify_eq (p msg sig : List (BitVec 8)) (hp : p.length ≤ 2000000000) (hm : msg.length ≤ 2000000000) (hs : sig.length ≤ 2000000000) : hss_Verify p msg sig = some (hvrf p msg sig) := by
  unfold hss_Verify
  by_cases hl : p.length = 60
  · have r1 := rU32_at p 0 (by omega)
    have r2 := rU32_at p 4 (by omega)
    have r3 := rU32_at p 8 (by omega)
    rw [if_f (by simp [hl]), bind_some' (rNew_eq p (by omega))]
    simp only []
    rw [show wire_Reader_U32 (p, false) = _ from r1, Option.bind_some]
    simp only []
    rw [n4_32 p 0 2 (by omega)]
    by_cases h2 : n4 p 0 = 2
    · rw [if_f (by rw [decide_eq_true h2]; decide), show wire_Reader_U32 (p.drop (0 + 4), false) = _ from r2, Option.bind_some]
      simp only []
      rw [show wire_Reader_U32 (p.drop (4 + 4), false) = _ from r3, Option.bind_some, bind_some' (rNew_eq sig (by omega))]
      simp only []
      have e1 : (((val (List.take 4 (List.drop 4 p))).setWidth 32).toNat : Int) = (n4 p 4 : Int) := n4_w p 4
      have e2 : (((val (List.take 4 (List.drop 8 p))).setWidth 32).toNat : Int) = (n4 p 8 : Int) := n4_w p 8
      rw [e1, e2]
      by_cases h4 : 4 ≤ sig.length
      · have r4 := rU32_at sig 0 (by omega)
        rw [show wire_Reader_U32 (sig, false) = _ from r4, Option.bind_some]
        simp only []
        rw [n4_32 sig 0 1 (by omega)]
        by_cases h5 : n4 sig 0 = 1
        · rw [if_f (by rw [decide_eq_true h5]; decide)]
          by_cases hk : okP p
          · have hh : IsH (n4 p 4) := by have := hk.1; unfold IsH; omega
            have hkk : IsKind (n4 p 8) := by have := hk.2; unfold IsKind; omega
            have htn := tN_le hk
            rw [bind_some' (lsize_eq hh hkk)]
            have ht : 8 + sizeN (n4 p 8) + 32 * n4 p 4 = tN p := rfl
            rw [ht]
            clear ht
            by_cases h6 : 4 + tN p ≤ sig.length
            · have r5 := rPlain_at sig 4 (tN p) h6
              rw [show wire_Reader_Plain (sig.drop (0 + 4), false) (tN p : Int) = _ from r5, Option.bind_some]
              simp only []
              by_cases h7 : 60 + tN p ≤ sig.length
              · have r6 : wire_Reader_Plain (sig.drop (4 + tN p), false) (56 : Int) = _ := rPlain_at sig (4 + tN p) 56 (by omega)
                rw [bind_some' r6]
                simp only []
                have hln : (sig.drop (4 + tN p + 56)).length = sig.length - (60 + tN p) := by rw [List.length_drop]; omega
                have r7 := rPlain_at sig (4 + tN p + 56) (sig.drop (4 + tN p + 56)).length (by omega)
                have hL : wire_Reader_Left (sig.drop (4 + tN p + 56), false) = some ((sig.drop (4 + tN p + 56)).length : Int) := rfl
                rw [bind_some' hL, bind_some' r7]
                simp only []
                have hF : wire_Reader_Fails (sig.drop (4 + tN p + 56 + (sig.drop (4 + tN p + 56)).length), false) = some false := rfl
                have s1 : lslice p (4 : Int) (p.length : Int) = some (p.drop 4) := by rw [lslice_at (lo := (4 : Int)) (a := 4) rfl rfl (by omega) (Nat.le_refl _), List.take_length]
                rw [bind_some' hF, if_t (by rfl), bind_some' s1, List.take_length, show 4 + tN p + 56 = 60 + tN p by omega]
                have q1 : (p.drop 4).length ≤ 4000000000 := by rw [List.length_drop]; omega
                have q2 : ((sig.drop (4 + tN p)).take 56).length ≤ 2000000000 := by rw [List.length_take]; omega
                have q3 : ((sig.drop 4).take (tN p)).length ≤ 2000000000 := by rw [List.length_take]; omega
                have q4 : (sig.drop (60 + tN p)).length ≤ 2000000000 := by rw [List.length_drop]; omega
                have q5 : ((sig.drop (4 + tN p)).take 56).length ≤ 4000000000 := by rw [List.length_take]; omega
                rw [bind_some' (lverify_eq _ _ _ q1 q2 q3), Option.bind_some]
                by_cases v1 : vrf (p.drop 4) ((sig.drop (4 + tN p)).take 56) ((sig.drop 4).take (tN p)) = true
                · rw [if_t v1, bind_some' (lverify_eq _ _ _ q5 hm q4), Option.bind_some]
                  refine congrArg some ?_
                  unfold hvrf
                  by_cases v2 : vrf ((sig.drop (4 + tN p)).take 56) msg (sig.drop (60 + tN p)) = true
                  · exact v2.trans (decide_eq_true ⟨hl, h2, h4, h5, hk, h7, v1, v2⟩).symm
                  · rw [decide_eq_false (fun hc => v2 hc.2.2.2.2.2.2.2)]
                    simpa using v2
                · rw [if_f v1, Option.bind_some]
                  refine congrArg some ?_
                  unfold hvrf
                  rw [decide_eq_false (fun hc => v1 hc.2.2.2.2.2.2.1)]
              · have r6 : wire_Reader_Plain (sig.drop (4 + tN p), false) (56 : Int) = some ((sig.drop (4 + tN p), true), []) := rPlain_short _ _ (by right; rw [List.length_drop]; omega)
                rw [bind_some' r6]
                simp only []
                have hL : wire_Reader_Left (sig.drop (4 + tN p), true) = some ((sig.drop (4 + tN p)).length : Int) := rfl
                rw [bind_some' hL, bind_some' (rPlain_failed _ _)]
                simp only []
                have hF : wire_Reader_Fails (sig.drop (4 + tN p), true) = some true := rfl
                rw [bind_some' hF, if_f (by decide), Option.bind_some, if_f (by decide), Option.bind_some]
                refine congrArg some ?_
                unfold hvrf
                rw [decide_eq_false (fun hc => h7 hc.2.2.2.2.2.1)]
            · have r5 : wire_Reader_Plain (sig.drop (0 + 4), false) (tN p : Int) = some ((sig.drop (0 + 4), true), []) := rPlain_short _ _ (by right; rw [List.length_drop]; omega)
              rw [bind_some' r5]
              simp only []
              rw [bind_some' (rPlain_failed _ _)]
              simp only []
              have hL : wire_Reader_Left (sig.drop (0 + 4), true) = some ((sig.drop (0 + 4)).length : Int) := rfl
              rw [bind_some' hL, bind_some' (rPlain_failed _ _)]
              simp only []
              have hF : wire_Reader_Fails (sig.drop (0 + 4), true) = some true := rfl
              rw [bind_some' hF, if_f (by decide), Option.bind_some, if_f (by decide), Option.bind_some]
              refine congrArg some ?_
              unfold hvrf
              rw [decide_eq_false (fun hc => h6 (by have := hc.2.2.2.2.2.1; omega))]
          · have hv : hvrf p msg sig = false := by unfold hvrf; rw [decide_eq_false (fun hc => hk hc.2.2.2.2.1)]
            rw [hv, bind_some' (lsize_no (by unfold okP at hk; omega))]
            have r5 : wire_Reader_Plain (sig.drop (0 + 4), false) (0 : Int) = some ((sig.drop (4 + 0), false), (sig.drop 4).take 0) := rPlain_at sig 4 0 (by omega)
            rw [bind_some' r5]
            simp only []
            by_cases h7 : 60 ≤ sig.length
            · have r6 : wire_Reader_Plain (sig.drop (4 + 0), false) (56 : Int) = _ := rPlain_at sig 4 56 (by omega)
              rw [bind_some' r6]
              simp only []
              have hln : (sig.drop (4 + 56)).length = sig.length - 60 := by rw [List.length_drop]
              have r7 := rPlain_at sig (4 + 56) (sig.drop (4 + 56)).length (by omega)
              have hL : wire_Reader_Left (sig.drop (4 + 56), false) = some ((sig.drop (4 + 56)).length : Int) := rfl
              rw [bind_some' hL, bind_some' r7]
              simp only []
              have hF : wire_Reader_Fails (sig.drop (4 + 56 + (sig.drop (4 + 56)).length), false) = some false := rfl
              have s1 : lslice p (4 : Int) (p.length : Int) = some (p.drop 4) := by rw [lslice_at (lo := (4 : Int)) (a := 4) rfl rfl (by omega) (Nat.le_refl _), List.take_length]
              have q1 : (p.drop 4).length ≤ 4000000000 := by rw [List.length_drop]; omega
              have q2 : ((sig.drop 4).take 56).length ≤ 2000000000 := by rw [List.length_take]; omega
              have q3 : ((sig.drop 4).take 0).length ≤ 2000000000 := by rw [List.length_take]; omega
              have hvn : vrf (p.drop 4) ((sig.drop 4).take 56) ((sig.drop 4).take 0) = false := vrf_no (by rw [n4_drop, n4_drop]; exact hk)
              rw [bind_some' hF, if_t (by rfl), bind_some' s1, bind_some' (lverify_eq _ _ _ q1 q2 q3), hvn, Option.bind_some, if_f (by decide), Option.bind_some]
            · have r6 : wire_Reader_Plain (sig.drop (4 + 0), false) (56 : Int) = some ((sig.drop (4 + 0), true), []) := rPlain_short _ _ (by right; rw [List.length_drop]; omega)
              rw [bind_some' r6]
              simp only []
              have hL : wire_Reader_Left (sig.drop (4 + 0), true) = some ((sig.drop (4 + 0)).length : Int) := rfl
              rw [bind_some' hL, bind_some' (rPlain_failed _ _)]
              simp only []
              have hF : wire_Reader_Fails (sig.drop (4 + 0), true) = some true := rfl
              rw [bind_some' hF, if_f (by decide), Option.bind_some, if_f (by decide), Option.bind_some]
        · rw [if_t (by rw [decide_eq_false h5]; rfl)]
          refine congrArg some ?_
          unfold hvrf
          rw [decide_eq_false (fun hc => h5 hc.2.2.2.1)]
      · rw [bind_some' (rU32_short sig (by omega)), if_t (by simp)]
        refine congrArg some ?_
        unfold hvrf
        rw [decide_eq_false (fun hc => h4 hc.2.2.1)]
    · rw [if_t (by rw [decide_eq_false h2]; rfl)]
      refine congrArg some ?_
      unfold hvrf
      rw [decide_eq_false (fun hc => h2 hc.2.1)]
  · rw [if_t (by simp; omega)]
    refine congrArg some ?_
    unfold hvrf
    rw [decide_eq_false (fun hc => hl hc.1)]
theorem n4_64 (b : List (BitVec 8)) (i c : Nat) (hc : c < 4294967296) : (decide (val ((b.drop i).take 4) = BitVec.ofNat 64 c)) = decide (n4 b i = c) := by
  simp only [decide_eq_decide]
  exact n4_bv b i c hc
theorem hrverify_eq (p msg sig : List (BitVec 8)) (hp : p.length ≤ 2000000000) (hm : msg.length ≤ 2000000000) (hs : sig.length ≤ 2000000000) : rolodexref06_Verify p msg sig = some (hvrf p msg sig) := by
  unfold rolodexref06_Verify
  have v0 : ∀ (b : List (BitVec 8)) i, rolodexref01_Value ((b.drop i).take 4) = some (val ((b.drop i).take 4)) := fun b i => value_eq _ (by rw [List.length_take]; omega)
  by_cases hl : p.length = 60
  · rw [if_f (by simp [hl]), Option.bind_some]
    by_cases h4 : 4 ≤ sig.length
    · rw [if_f (by rw [decide_eq_true_eq]; omega), bind_some' (rsl4 p 0 4 0 rfl rfl (by omega)), bind_some' (v0 p 0), n4_64 p 0 2 (by omega), Option.bind_some]
      by_cases h2 : n4 p 0 = 2
      · rw [if_f (by rw [decide_eq_true h2]; decide), bind_some' (rsl4 sig 0 4 0 rfl rfl (by omega)), bind_some' (v0 sig 0), n4_64 sig 0 1 (by omega), Option.bind_some]
        by_cases h5 : n4 sig 0 = 1
        · rw [if_f (by rw [decide_eq_true h5]; decide), bind_some' (rsl4 p 4 8 4 rfl rfl (by omega)), bind_some' (v0 p 4), bind_some' (rsl4 p 8 12 8 rfl rfl (by omega)), bind_some' (v0 p 8), bv_le4, bv_le4, w64_n4, w64_n4]
          by_cases hk : okP p
          · have hh : IsH (n4 p 4) := by have := hk.1; unfold IsH; omega
            have hkk : IsKind (n4 p 8) := by have := hk.2; unfold IsKind; omega
            have htn := tN_le hk
            have hk1 := hk.1
            have hk2 := hk.2
            have ht : 8 + sizeN (n4 p 8) + 32 * n4 p 4 = tN p := rfl
            rw [if_f (by rw [decide_eq_true_eq]; omega), Option.bind_some, if_f (by rw [decide_eq_true_eq]; omega), bind_some' (rsizeT_eq hh hkk), ht]
            have ht0 : 0 < tN p := by unfold tN; omega
            clear ht
            have w1 : w64 ((60 : Int) + (tN p : Int)) = ((60 + tN p : Nat) : Int) := by rw [w64_id (by omega) (by omega)]; rfl
            have w2 : w64 ((4 : Int) + (tN p : Int)) = ((4 + tN p : Nat) : Int) := by clear w1; rw [w64_id (by omega) (by omega)]; rfl
            rw [w1, w2]
            clear w1 w2
            rw [if_f (by rw [decide_eq_true_eq]; omega), Option.bind_some]
            by_cases h7 : 60 + tN p ≤ sig.length
            · have s5 : lslice sig (((4 + tN p : Nat) : Int)) (((60 + tN p : Nat) : Int)) = some ((sig.drop (4 + tN p)).take 56) := by
                rw [lslice_at rfl rfl (by omega) h7, List.drop_take, show 60 + tN p - (4 + tN p) = 56 by omega]
              have s6 : lslice p (4 : Int) (60 : Int) = some (p.drop 4) := by
                rw [lslice_at (lo := (4 : Int)) (hi := (60 : Int)) (a := 4) (b := 60) rfl rfl (by omega) (by omega), List.take_of_length_le (by omega)]
              have s7 : lslice sig (4 : Int) (((4 + tN p : Nat) : Int)) = some ((sig.drop 4).take (tN p)) := by
                rw [lslice_at (lo := (4 : Int)) (a := 4) rfl rfl (by omega) (by omega), List.drop_take, Nat.add_sub_cancel_left]
              have s8 : lslice sig (((60 + tN p : Nat) : Int)) (sig.length : Int) = some (sig.drop (60 + tN p)) := by
                rw [lslice_at rfl rfl h7 (Nat.le_refl _), List.take_length]
              have q1 : (p.drop 4).length ≤ 4000000000 := by rw [List.length_drop]; omega
              have q2 : ((sig.drop (4 + tN p)).take 56).length ≤ 2000000000 := by rw [List.length_take]; omega
              have q3 : ((sig.drop 4).take (tN p)).length ≤ 2000000000 := by rw [List.length_take]; omega
              have q4 : (sig.drop (60 + tN p)).length ≤ 2000000000 := by rw [List.length_drop]; omega
              have q5 : ((sig.drop (4 + tN p)).take 56).length ≤ 4000000000 := by rw [List.length_take]; omega
              rw [if_f (by rw [decide_eq_true_eq]; omega), bind_some' s5, bind_some' s6, bind_some' s7, bind_some' (rverify_eq _ _ _ q1 q2 q3)]
              by_cases v1 : vrf (p.drop 4) ((sig.drop (4 + tN p)).take 56) ((sig.drop 4).take (tN p)) = true
              · rw [if_t v1, bind_some' s8, bind_some' (rverify_eq _ _ _ q5 hm q4), Option.bind_some]
                refine congrArg some ?_
                unfold hvrf
                by_cases v2 : vrf ((sig.drop (4 + tN p)).take 56) msg (sig.drop (60 + tN p)) = true
                · exact v2.trans (decide_eq_true ⟨hl, h2, h4, h5, hk, h7, v1, v2⟩).symm
                · rw [decide_eq_false (fun hc => v2 hc.2.2.2.2.2.2.2)]
                  simpa using v2
              · rw [if_f v1, Option.bind_some]
                refine congrArg some ?_
                unfold hvrf
                rw [decide_eq_false (fun hc => v1 hc.2.2.2.2.2.2.1)]
            · rw [if_t (by rw [decide_eq_true_eq]; omega)]
              refine congrArg some ?_
              unfold hvrf
              rw [decide_eq_false (fun hc => h7 hc.2.2.2.2.2.1)]
          · have hv : hvrf p msg sig = false := by unfold hvrf; rw [decide_eq_false (fun hc => hk hc.2.2.2.2.1)]
            rw [hv]
            by_cases d1 : 4 < n4 p 4
            · rw [if_t (decide_eq_true d1), Option.bind_some, if_t rfl]
            · rw [if_f (by rw [decide_eq_true_eq]; exact d1), Option.bind_some]
              by_cases d2 : 4 < n4 p 8
              · rw [if_t (decide_eq_true d2)]
              · rw [if_f (by rw [decide_eq_true_eq]; exact d2), bind_some' (rsizeT_no (by unfold okP at hk; omega)), if_t (by rfl), Option.bind_some, if_t rfl]
        · rw [if_t (by rw [decide_eq_false h5]; rfl)]
          refine congrArg some ?_
          unfold hvrf
          rw [decide_eq_false (fun hc => h5 hc.2.2.2.1)]
      · rw [if_t (by rw [decide_eq_false h2]; rfl), Option.bind_some, if_t rfl]
        refine congrArg some ?_
        unfold hvrf
        rw [decide_eq_false (fun hc => h2 hc.2.1)]
    · rw [if_t (by rw [decide_eq_true_eq]; omega), Option.bind_some, if_t rfl, Option.bind_some, if_t rfl]
      refine congrArg some ?_
      unfold hvrf
      rw [decide_eq_false (fun hc => h4 hc.2.2.1)]
  · rw [if_t (by simp; omega), Option.bind_some, if_t rfl, Option.bind_some, if_t rfl, Option.bind_some, if_t rfl]
    refine congrArg some ?_
    unfold hvrf
    rw [decide_eq_false (fun hc => hl hc.1)]
theorem hssVerifies (p msg sig : List (BitVec 8)) : rolodexlaw06_HssVerifies p msg sig = some true := by
  unfold rolodexlaw06_HssVerifies
  rw [bind_some' awake06, if_f (by decide), Option.bind_some]
  by_cases h1 : 200 < p.length
  · rw [if_t (by rw [decide_eq_true_eq]; omega), Option.bind_some, if_t rfl, Option.bind_some, if_t rfl, bind_some' awake06]
  · rw [if_f (by rw [decide_eq_true_eq]; omega), Option.bind_some]
    by_cases h2 : 300 < msg.length
    · rw [if_t (by rw [decide_eq_true_eq]; omega), Option.bind_some, if_t rfl, bind_some' awake06]
    · rw [if_f (by rw [decide_eq_true_eq]; omega), Option.bind_some]
      by_cases h3 : 9000 < sig.length
      · rw [if_t (by rw [decide_eq_true_eq]; omega), bind_some' awake06]
      · rw [if_f (by rw [decide_eq_true_eq]; omega), bind_some' (hverify_eq p msg sig (by omega) (by omega) (by omega)), bind_some' (hrverify_eq p msg sig (by omega) (by omega) (by omega))]
        simp
/-! ## What was signed is right -/
theorem be2_4 : be (BitVec.ofNat 32 2) 4 = [0#8, 0#8, 0#8, 2#8] := by decide
theorem be1_4 : be (BitVec.ofNat 32 1) 4 = [0#8, 0#8, 0#8, 1#8] := by decide
theorem hpub_parts {t k : Nat} (ht : IsH t) (hk : IsKind k) (seed : T_api_Hash) : n4 (hpub t k seed) 0 = 2 ∧ n4 (hpub t k seed) 4 = t ∧ n4 (hpub t k seed) 8 = k ∧ (hpub t k seed).drop 4 = pubT t k (tID seed) (tSeed seed) := by
  obtain ⟨p1, p2, p3, p4⟩ := pubT_parts ht hk (tID seed) (tSeed seed)
  have hd : (hpub t k seed).drop 4 = pubT t k (tID seed) (tSeed seed) := by unfold hpub; rfl
  refine ⟨?_, ?_, ?_, hd⟩
  · have := n4_mid [] (pubT t k (tID seed) (tSeed seed)) 2 0 (by omega) rfl
    unfold hpub
    rw [be2_4] at this
    exact this
  · rw [← n4_drop _ 4 0, hd, p1]
  · rw [← n4_drop _ 4 4, hd, p2]
theorem hsig_parts {t b k : Nat} (hb : IsH b) (seed : T_api_Hash) (n : Nat) (hn : n < KK t * KK b) (msg more : List (BitVec 8)) :
    n4 (hsig t b k seed n msg ++ more) 0 = 1 ∧ ((hsig t b k seed n msg ++ more).drop 4).take (8 + sizeN k + 32 * t) = sigT t k (tID seed) (tSeed seed) (n / KK b) (pubT b k (bID seed (n / KK b)) (bSeed seed (n / KK b))) ∧
    ((hsig t b k seed n msg ++ more).drop (4 + (8 + sizeN k + 32 * t))).take 56 = pubT b k (bID seed (n / KK b)) (bSeed seed (n / KK b)) ∧ (hsig t b k seed n msg ++ more).drop (60 + (8 + sizeN k + 32 * t)) = sigT b k (bID seed (n / KK b)) (bSeed seed (n / KK b)) (n % KK b) msg ++ more := by
  obtain ⟨d1, d2⟩ := hdiv_lt hb hn
  have l1 := sigT_len (h := t) (k := k) (tID seed) (tSeed seed) (n / KK b) d1 (pubT b k (bID seed (n / KK b)) (bSeed seed (n / KK b)))
  have hp := pubT_len b k (bID seed (n / KK b)) (bSeed seed (n / KK b))
  unfold hsig
  generalize sigT t k (tID seed) (tSeed seed) (n / KK b) (pubT b k (bID seed (n / KK b)) (bSeed seed (n / KK b))) = A at l1 ⊢
  generalize sigT b k (bID seed (n / KK b)) (bSeed seed (n / KK b)) (n % KK b) msg = C
  generalize pubT b k (bID seed (n / KK b)) (bSeed seed (n / KK b)) = B at hp ⊢
  generalize 8 + sizeN k + 32 * t = N at l1 ⊢
  rw [← be1_4]
  refine ⟨?_, ?_, ?_, ?_⟩
  · have := n4_mid [] (((A ++ B) ++ C) ++ more) 1 0 (by omega) rfl
    simpa [List.append_assoc] using this
  · rw [List.append_assoc, List.append_assoc, List.append_assoc, List.drop_left' (be_len _ _), List.take_left' l1]
  · rw [List.append_assoc, List.append_assoc, List.drop_left' (by rw [List.length_append, be_len, l1]), List.take_left' hp]
  · rw [List.append_assoc, List.drop_left' (by rw [List.length_append, List.length_append, be_len, l1, hp]; omega)]
theorem hvrf_more {t b k : Nat} (ht : IsH t) (hb : IsH b) (hk : IsKind k) (seed : T_api_Hash) (n : Nat) (hn : n < KK t * KK b) (msg more : List (BitVec 8)) :
    hvrf (hpub t k seed) msg (hsig t b k seed n msg ++ more) = vrf (pubT b k (bID seed (n / KK b)) (bSeed seed (n / KK b))) msg (sigT b k (bID seed (n / KK b)) (bSeed seed (n / KK b)) (n % KK b) msg ++ more) := by
  obtain ⟨d1, d2⟩ := hdiv_lt hb hn
  obtain ⟨p1, p2, p3, p4⟩ := hpub_parts ht hk seed
  obtain ⟨s1, s2, s3, s4⟩ := hsig_parts (t := t) (k := k) hb seed n hn msg more
  have hl := hsig_len (t := t) (k := k) hb seed n hn msg
  have ht1 := isH_le ht
  have hk1 := isK_le hk
  have htn : tN (hpub t k seed) = 8 + sizeN k + 32 * t := by unfold tN; rw [p2, p3]
  unfold hvrf
  rw [htn, s1, s2, s3, s4, p4, p1, hpub_len]
  have hok : okP (hpub t k seed) := by unfold okP; rw [p2, p3]; omega
  have hr := vrf_right ht hk (tID seed) (tSeed seed) (n / KK b) d1 (pubT b k (bID seed (n / KK b)) (bSeed seed (n / KK b)))
  by_cases v : vrf (pubT b k (bID seed (n / KK b)) (bSeed seed (n / KK b))) msg (sigT b k (bID seed (n / KK b)) (bSeed seed (n / KK b)) (n % KK b) msg ++ more) = true
  · rw [v, decide_eq_true ⟨rfl, rfl, by rw [List.length_append]; omega, rfl, hok, by rw [List.length_append]; omega, hr, rfl⟩]
  · rw [decide_eq_false (fun hc => v hc.2.2.2.2.2.2.2)]
    simpa using v
theorem hvrf_right {t b k : Nat} (ht : IsH t) (hb : IsH b) (hk : IsKind k) (seed : T_api_Hash) (n : Nat) (hn : n < KK t * KK b) (msg : List (BitVec 8)) : hvrf (hpub t k seed) msg (hsig t b k seed n msg) = true := by
  obtain ⟨d1, d2⟩ := hdiv_lt hb hn
  have := hvrf_more ht hb hk seed n hn msg []
  rw [List.append_nil, List.append_nil] at this
  rw [this]
  exact vrf_right hb hk _ _ _ d2 msg
/-- With more at the end. -/
theorem hvrf_long {t b k : Nat} (ht : IsH t) (hb : IsH b) (hk : IsKind k) (seed : T_api_Hash) (n : Nat) (hn : n < KK t * KK b) (msg more : List (BitVec 8)) (hm : more.length ≠ 0) : hvrf (hpub t k seed) msg (hsig t b k seed n msg ++ more) = false := by
  obtain ⟨d1, d2⟩ := hdiv_lt hb hn
  rw [hvrf_more ht hb hk seed n hn msg more]
  exact vrf_len hb hk _ _ _ _ (by rw [List.length_append, sigT_len _ _ _ d2]; omega)
/-- With less at the end. -/
theorem hvrf_short {t b k : Nat} (ht : IsH t) (hb : IsH b) (hk : IsKind k) (seed : T_api_Hash) (n : Nat) (hn : n < KK t * KK b) (msg : List (BitVec 8)) (m : Nat) (hm : m < (hsig t b k seed n msg).length) (h0 : 60 + (8 + sizeN k + 32 * t) ≤ m) : hvrf (hpub t k seed) msg ((hsig t b k seed n msg).take m) = false := by
  obtain ⟨d1, d2⟩ := hdiv_lt hb hn
  obtain ⟨p1, p2, p3, p4⟩ := hpub_parts ht hk seed
  obtain ⟨s1, s2, s3, s4⟩ := hsig_parts (t := t) (k := k) hb seed n hn msg []
  rw [List.append_nil] at s1 s2 s3 s4
  have hl := hsig_len (t := t) (k := k) hb seed n hn msg
  have htn : tN (hpub t k seed) = 8 + sizeN k + 32 * t := by unfold tN; rw [p2, p3]
  have e3 : (((hsig t b k seed n msg).take m).drop (4 + (8 + sizeN k + 32 * t))).take 56 = pubT b k (bID seed (n / KK b)) (bSeed seed (n / KK b)) := by
    rw [List.drop_take, List.take_take, Nat.min_eq_left (by omega), s3]
  have v : vrf (pubT b k (bID seed (n / KK b)) (bSeed seed (n / KK b))) msg (((hsig t b k seed n msg).take m).drop (60 + (8 + sizeN k + 32 * t))) = false := vrf_len hb hk _ _ _ _ (by rw [List.length_drop, List.length_take]; omega)
  unfold hvrf
  rw [htn, e3, v, decide_eq_false (fun hc => by cases hc.2.2.2.2.2.2.2)]
theorem hvrf_plen (p msg sig : List (BitVec 8)) (hl : p.length ≠ 60) : hvrf p msg sig = false := by
  unfold hvrf
  rw [decide_eq_false (fun hc => hl hc.1)]
theorem hssCuts (seed : T_api_Hash) (msg more : List (BitVec 8)) : rolodexlaw06_HssCuts seed msg more = some true := by
  unfold rolodexlaw06_HssCuts
  rw [bind_some' awake06, if_f (by decide), Option.bind_some]
  by_cases hm : 100 < msg.length
  · rw [if_t (by rw [decide_eq_true_eq]; omega), Option.bind_some, if_t rfl, Option.bind_some, if_t rfl, bind_some' awake06]
  · rw [if_f (by rw [decide_eq_true_eq]; omega), Option.bind_some]
    by_cases h0 : more.length = 0
    · rw [if_t (by rw [decide_eq_true_eq]; omega), Option.bind_some, if_t rfl, bind_some' awake06]
    · rw [if_f (by rw [decide_eq_true_eq]; omega), Option.bind_some]
      by_cases h50 : 50 < more.length
      · rw [if_t (by rw [decide_eq_true_eq]; omega), bind_some' awake06]
      · have h1 : IsH 1 := Or.inl rfl
        have h2 : IsKind 2 := Or.inr (Or.inl rfl)
        have hKK : KK 1 * KK 1 = 4 := rfl
        obtain ⟨s, hs, hI⟩ := hnew_eq h1 h1 h2 seed
        have hs' : hss_New (1 : Int) (1 : Int) (2 : Int) seed = _ := hs
        obtain ⟨s', hs2, hI2⟩ := hsign_eq h1 h1 h2 hI 3 (by rw [hKK]; omega) msg (by omega)
        have hs2' : hss_Signer_Sign s (3 : Int) msg = _ := hs2
        have hl := hsig_len (t := 1) (k := 2) h1 seed 3 (by rw [hKK]; omega) msg
        have hsz : sizeN 2 = 4292 := rfl
        have pl := hpub_len 1 2 seed
        have w1 : w64 (((hsig 1 1 2 seed 3 msg).length : Int) - (more.length : Int)) = (((hsig 1 1 2 seed 3 msg).length - more.length : Nat) : Int) := by rw [w64_id (by omega) (by omega)]; omega
        have w2 : w64 ((60 : Int) - (more.length : Int)) = ((60 - more.length : Nat) : Int) := by clear w1; rw [w64_id (by omega) (by omega)]; omega
        have v0 := hvrf_right h1 h1 h2 seed 3 (by rw [hKK]; omega) msg
        have v1 : hvrf (hpub 1 2 seed) msg (([] ++ hsig 1 1 2 seed 3 msg) ++ more) = false := by
          rw [List.nil_append]; exact hvrf_long h1 h1 h2 seed 3 (by rw [hKK]; omega) msg more h0
        have v2 : hvrf (hpub 1 2 seed) msg ((hsig 1 1 2 seed 3 msg).take ((hsig 1 1 2 seed 3 msg).length - more.length)) = false := hvrf_short h1 h1 h2 seed 3 (by rw [hKK]; omega) msg _ (by clear w1 w2; omega) (by clear w1 w2; omega)
        have v3 : hvrf (([] ++ hpub 1 2 seed) ++ more) msg (hsig 1 1 2 seed 3 msg) = false := hvrf_plen _ _ _ (by clear w1 w2; rw [List.nil_append, List.length_append]; omega)
        have v4 : hvrf ((hpub 1 2 seed).take (60 - more.length)) msg (hsig 1 1 2 seed 3 msg) = false := hvrf_plen _ _ _ (by clear w1 w2; rw [List.length_take]; omega)
        have q0 : (hsig 1 1 2 seed 3 msg).length ≤ 2000000000 := by clear w1 w2; omega
        have q1 : (([] ++ hsig 1 1 2 seed 3 msg) ++ more).length ≤ 2000000000 := by clear w1 w2; rw [List.nil_append, List.length_append]; omega
        have q2 : (([] ++ hpub 1 2 seed) ++ more).length ≤ 2000000000 := by clear w1 w2; rw [List.nil_append, List.length_append]; omega
        have q3 : ((hsig 1 1 2 seed 3 msg).take ((hsig 1 1 2 seed 3 msg).length - more.length)).length ≤ 2000000000 := by clear w1 w2; rw [List.length_take]; omega
        have q4 : ((hpub 1 2 seed).take (60 - more.length)).length ≤ 2000000000 := by clear w1 w2; rw [List.length_take]; omega
        have q5 : (hpub 1 2 seed).length ≤ 2000000000 := by clear w1 w2; omega
        have qm : msg.length ≤ 2000000000 := by clear w1 w2; omega
        have a1 : ([] : List (BitVec 8)).length + (hsig 1 1 2 seed 3 msg).length ≤ 4294967296 := by clear w1 w2; simp only [List.length_nil]; omega
        have a2 : ([] ++ hsig 1 1 2 seed 3 msg).length + more.length ≤ 4294967296 := by clear w1 w2; rw [List.nil_append]; omega
        have a3 : ([] : List (BitVec 8)).length + (hpub 1 2 seed).length ≤ 4294967296 := by clear w1 w2; simp only [List.length_nil]; omega
        have a4 : ([] ++ hpub 1 2 seed).length + more.length ≤ 4294967296 := by clear w1 w2; rw [List.nil_append]; omega
        have b1 : (hsig 1 1 2 seed 3 msg).length - more.length ≤ (hsig 1 1 2 seed 3 msg).length := Nat.sub_le _ _
        have b2 : 60 - more.length ≤ (hpub 1 2 seed).length := by rw [pl]; exact Nat.sub_le _ _
        rw [if_f (by clear w1 w2; rw [decide_eq_true_eq]; omega), bind_some' hs']
        simp only []
        rw [Option.bind_some, show ((s.1, s.2.1, s.2.2.1, s.2.2.2.1, s.2.2.2.2.1, s.2.2.2.2.2) : Sg) = s from rfl, bind_some' hs2']
        simp only []
        rw [show ((s'.1, s'.2.1, s'.2.2.1, s'.2.2.2.1, s'.2.2.2.2.1, s'.2.2.2.2.2) : Sg) = s' from rfl, bind_some' (hpublic_eq h1 hI2), if_t (hap_ok a1), if_t (hap_ok a2), if_t (hap_ok a3), if_t (hap_ok a4),
          bind_some' (hverify_eq _ _ _ q5 qm q0), v0, if_t rfl, bind_some' (hverify_eq _ _ _ q5 qm q1), v1, Option.bind_some, if_t (by rfl), w1, bind_some' (lslice_at (lo := (0 : Int)) (a := 0) rfl rfl (Nat.zero_le _) b1), List.drop_zero, bind_some' (hverify_eq _ _ _ q5 qm q3), v2, Option.bind_some, if_t (by rfl),
          bind_some' (hverify_eq _ _ _ q2 qm q0), v3, Option.bind_some, if_t (by rfl), w2, bind_some' (lslice_at (lo := (0 : Int)) (a := 0) rfl rfl (Nat.zero_le _) b2), List.drop_zero, bind_some' (hverify_eq _ _ _ q4 qm q0), v4, Option.bind_some]
        rfl
theorem hsize_eq {t b k : Nat} (ht : IsH t) (hb : IsH b) (hk : IsKind k) : hss_Size (t : Int) (b : Int) (k : Int) = some ((4 + (8 + sizeN k + 32 * t) + 56 + (8 + sizeN k + 32 * b) : Nat) : Int) := by
  unfold hss_Size
  have hsz : sizeN k ≤ 100000 := by have := chainsN_le hk; unfold sizeN; omega
  have h1 := isH_le ht
  have h2 := isH_le hb
  rw [bind_some' (lsize_eq ht hk), bind_some' (lsize_eq hb hk), if_f (by rw [decide_eq_true_eq]; omega), Option.bind_some, if_f (by rw [decide_eq_true_eq]; omega), Option.bind_some]
  have w : ∀ A B : Nat, A ≤ 1000000 → B ≤ 1000000 → w64 (w64 (w64 ((4 : Int) + (A : Int)) + 56) + (B : Int)) = ((4 + A + 56 + B : Nat) : Int) := fun A B ha hb => by
    rw [w64_id (n := 4 + (A : Int)) (by omega) (by omega), w64_id (n := 4 + (A : Int) + 56) (by omega) (by omega), w64_id (by omega) (by omega)]; omega
  rw [w _ _ (by omega) (by omega)]
theorem hssRight (q : T_rolodexlaw06_Asked) (order msg : List (BitVec 8)) : rolodexlaw06_HssRight q order msg = some true := by
  obtain ⟨kd, seed⟩ := q
  unfold rolodexlaw06_HssRight
  simp only []
  rw [bind_some' awake06, if_f (by decide), Option.bind_some]
  by_cases ho : 10 < order.length
  · rw [if_t (by rw [decide_eq_true_eq]; omega), Option.bind_some, if_t rfl, bind_some' awake06]
  · rw [if_f (by rw [decide_eq_true_eq]; omega), Option.bind_some]
    by_cases hm : 100 < msg.length
    · rw [if_t (by rw [decide_eq_true_eq]; omega), bind_some' awake06]
    · rw [if_f (by rw [decide_eq_true_eq]; omega)]
      have hq : (kd % (2#8)).toNat < 2 := by
        rw [BitVec.toNat_umod]
        exact Nat.mod_lt _ (by decide)
      generalize (kd % (2#8)).toNat = n at hq ⊢
      have w1 : w64 ((2 : Int) + (n : Int)) = ((n + 2 : Nat) : Int) := by rw [w64_id (by omega) (by omega)]; omega
      rw [w1, Option.bind_some]
      clear w1
      have hk : IsKind (n + 2) := by unfold IsKind; omega
      generalize n + 2 = k at hk
      clear hq
      have h1 : IsH 1 := Or.inl rfl
      have hKK : KK 1 * KK 1 = 4 := rfl
      obtain ⟨s0, hs, hI⟩ := hnew_eq h1 h1 hk seed
      have hs' : hss_New (1 : Int) (1 : Int) (k : Int) seed = _ := hs
      rw [bind_some' hs']
      simp only []
      rw [Option.bind_some, bind_some' hs']
      simp only []
      rw [Option.bind_some]
      have hsz : sizeN k ≤ 100000 := by have := chainsN_le hk; unfold sizeN; omega
      have qm : msg.length ≤ 2000000000 := by omega
      have pl : (hpub 1 k seed).length ≤ 2000000000 := by rw [hpub_len]; omega
      have hsz1 : hss_Size (1 : Int) (1 : Int) (k : Int) = _ := hsize_eq h1 h1 hk
      obtain ⟨o, hoo, hq⟩ := loopO_inv (f := fun (s : Int × Int × Int × T_api_Hash × (Option T_lms_Tree) × (Option T_lms_Tree) × Int × Int × Int × T_api_Hash × (Option T_lms_Tree) × (Option T_lms_Tree) × Int) => rolodexlaw06_HssRight_L1 order msg (k : Int) s.1 s.2.1 s.2.2.1 s.2.2.2.1 s.2.2.2.2.1 s.2.2.2.2.2.1 s.2.2.2.2.2.2.1 s.2.2.2.2.2.2.2.1 s.2.2.2.2.2.2.2.2.1 s.2.2.2.2.2.2.2.2.2.1 s.2.2.2.2.2.2.2.2.2.2.1 s.2.2.2.2.2.2.2.2.2.2.2.1 s.2.2.2.2.2.2.2.2.2.2.2.2)
        (fun s => ∃ (i : Nat) (a b : Sg), i ≤ order.length ∧ IsS 1 1 k seed a ∧ IsS 1 1 k seed b ∧ s = ((i : Int), a.1, a.2.1, a.2.2.1, a.2.2.2.1, a.2.2.2.2.1, a.2.2.2.2.2, b.1, b.2.1, b.2.2.1, b.2.2.2.1, b.2.2.2.2.1, b.2.2.2.2.2)) (fun s => order.length - s.1.toNat)
        (fun o => ∃ (i : Int) (a b : Sg), IsS 1 1 k seed b ∧ o = .inl (i, a.1, a.2.1, a.2.2.1, a.2.2.2.1, a.2.2.2.2.1, a.2.2.2.2.2, b.1, b.2.1, b.2.2.1, b.2.2.2.1, b.2.2.2.2.1, b.2.2.2.2.2)) (by
        rintro s ⟨i, a, b, hi, ha, hb, rfl⟩
        by_cases hl : i < order.length
        · left
          have hx : (order[i] % (4#8)).toNat < 4 := by
            rw [BitVec.toNat_umod]
            exact Nat.mod_lt _ (by decide)
          obtain ⟨b', hb1, hb2⟩ := hsign_eq h1 h1 hk hb (order[i] % (4#8)).toNat (by rw [hKK]; exact hx) msg qm
          obtain ⟨a', ha1, ha2⟩ := hsign_eq h1 h1 hk ha (order[i] % (4#8)).toNat (by rw [hKK]; exact hx) msg qm
          have hsl := hsig_len (t := 1) (k := k) h1 seed (order[i] % (4#8)).toNat (by rw [hKK]; exact hx) msg
          have hr := hvrf_right h1 h1 hk seed (order[i] % (4#8)).toNat (by rw [hKK]; exact hx) msg
          have q0 : (hsig 1 1 k seed (order[i] % (4#8)).toNat msg).length ≤ 2000000000 := by rw [hsl]; omega
          have q0' : (hsig 1 1 k seed (order[i] % (4#8)).toNat msg).length ≤ 4294967296 := by rw [hsl]; omega
          generalize hN : (order[i] % (4#8)).toNat = N at *
          clear hx
          by_cases hi0 : i = 0
          · refine ⟨(((i + 1 : Nat) : Int), a'.1, a'.2.1, a'.2.2.1, a'.2.2.2.1, a'.2.2.2.2.1, a'.2.2.2.2.2, b'.1, b'.2.1, b'.2.2.1, b'.2.2.2.1, b'.2.2.2.2.1, b'.2.2.2.2.2), ?_, ⟨i + 1, a', b', by omega, ha2, hb2, rfl⟩, by simp only [Int.toNat_natCast]; omega⟩
            simp only [rolodexlaw06_HssRight_L1]
            rw [if_t (by rw [decide_eq_true_eq]; omega), bind_some' (lget_at rfl hl), hN, show ((b.1, b.2.1, b.2.2.1, b.2.2.2.1, b.2.2.2.2.1, b.2.2.2.2.2) : Sg) = b from rfl, bind_some' hb1]
            simp only []
            rw [if_f (by simp), show ((b'.1, b'.2.1, b'.2.2.1, b'.2.2.2.1, b'.2.2.2.2.1, b'.2.2.2.2.2) : Sg) = b' from rfl, bind_some' (hpublic_eq h1 hb2), bind_some' (hverify_eq _ _ _ pl qm q0), hr, Option.bind_some, if_f (by decide), bind_some' hsz1, Option.bind_some, if_f (by rw [hsl]; simp), if_t (by rw [decide_eq_true_eq]; omega), show ((a.1, a.2.1, a.2.2.1, a.2.2.2.1, a.2.2.2.2.1, a.2.2.2.2.2) : Sg) = a from rfl, bind_some' ha1]
            simp only []
            rw [if_f (by simp), bind_some' (same_eq _ _ q0'), Option.bind_some, if_f (by simp), w64_id (n := (i : Int) + 1) (by omega) (by omega)]
            rfl
          · refine ⟨(((i + 1 : Nat) : Int), a.1, a.2.1, a.2.2.1, a.2.2.2.1, a.2.2.2.2.1, a.2.2.2.2.2, b'.1, b'.2.1, b'.2.2.1, b'.2.2.2.1, b'.2.2.2.2.1, b'.2.2.2.2.2), ?_, ⟨i + 1, a, b', by omega, ha, hb2, rfl⟩, by simp only [Int.toNat_natCast]; omega⟩
            simp only [rolodexlaw06_HssRight_L1]
            rw [if_t (by rw [decide_eq_true_eq]; omega), bind_some' (lget_at rfl hl), hN, show ((b.1, b.2.1, b.2.2.1, b.2.2.2.1, b.2.2.2.2.1, b.2.2.2.2.2) : Sg) = b from rfl, bind_some' hb1]
            simp only []
            rw [if_f (by simp), show ((b'.1, b'.2.1, b'.2.2.1, b'.2.2.2.1, b'.2.2.2.2.1, b'.2.2.2.2.2) : Sg) = b' from rfl, bind_some' (hpublic_eq h1 hb2), bind_some' (hverify_eq _ _ _ pl qm q0), hr, Option.bind_some, if_f (by decide), bind_some' hsz1, Option.bind_some, if_f (by rw [hsl]; simp), if_f (by rw [decide_eq_true_eq]; omega), w64_id (n := (i : Int) + 1) (by omega) (by omega)]
            rfl
        · exact .inr (.inl ⟨_, by
            simp only [rolodexlaw06_HssRight_L1]
            rw [if_f (by rw [decide_eq_true_eq]; omega)], ⟨(i : Int), a, b, hb, rfl⟩⟩)) FU ((0 : Int), s0.1, s0.2.1, s0.2.2.1, s0.2.2.2.1, s0.2.2.2.2.1, s0.2.2.2.2.2, s0.1, s0.2.1, s0.2.2.1, s0.2.2.2.1, s0.2.2.2.2.1, s0.2.2.2.2.2) ⟨0, s0, s0, Nat.zero_le _, hI, hI, rfl⟩ (by
          have := fu_lt (n := order.length) (by omega)
          simp only []; omega)
      rw [bind_some' hoo]
      obtain ⟨i, a, b, hb, rfl⟩ := hq
      simp only []
      rw [show ((b.1, b.2.1, b.2.2.1, b.2.2.2.1, b.2.2.2.2.1, b.2.2.2.2.2) : Sg) = b from rfl, bind_some' (hsign_spent h1 h1 hb (4 : Int) (Or.inr (by rw [hKK]; exact Int.le_refl _)) msg)]
      simp only []
      rw [show ((b.1, b.2.1, b.2.2.1, b.2.2.2.1, b.2.2.2.2.1, b.2.2.2.2.2) : Sg) = b from rfl, bind_some' (hsign_spent h1 h1 hb (-1 : Int) (Or.inl (by omega)) msg)]
      simp only []
      simp
end Go.Sl.Pu
