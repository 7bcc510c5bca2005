import Derived.Test.YtbaecpklplkciaaDoorPhs1
set_option linter.unusedSimpArgs false
set_option linter.unusedVariables false
set_option maxRecDepth 20000
/-! Signers: verifying, and the laws. -/
namespace Go.Sl.Pu
open Go.Sl Go.Sl.M
attribute [local irreducible] sha w64 pubk und sigk ndh recov val hat tagged pubT sigT idat nodesS vrf hsig hpub n4
/-- How long a tree's signature is. -/
def tN (p : List (BitVec 8)) : Nat := 8 + sizeN (n4 p 8) + 32 * n4 p 4
def okP (p : List (BitVec 8)) : Prop := (1 ≤ n4 p 4 ∧ n4 p 4 ≤ 4) ∧ (1 ≤ n4 p 8 ∧ n4 p 8 ≤ 4)
instance (p : List (BitVec 8)) : Decidable (okP p) := by unfold okP; infer_instance
def hvrf (p msg sig : List (BitVec 8)) : Bool :=
  decide (p.length = 60 ∧ n4 p 0 = 2 ∧ 4 ≤ sig.length ∧ n4 sig 0 = 1 ∧ okP p ∧ 60 + tN p ≤ sig.length ∧ vrf (p.drop 4) ((sig.drop (4 + tN p)).take 56) ((sig.drop 4).take (tN p)) = true ∧ vrf ((sig.drop (4 + tN p)).take 56) msg (sig.drop (60 + tN p)) = true)
theorem n4_drop (p : List (BitVec 8)) (i j : Nat) : n4 (p.drop i) j = n4 p (i + j) := by
  with_unfolding_all
  unfold n4
  rw [List.drop_drop]
theorem vrf_no {p msg sig : List (BitVec 8)} (h : ¬ ((1 ≤ n4 p 0 ∧ n4 p 0 ≤ 4) ∧ (1 ≤ n4 p 4 ∧ n4 p 4 ≤ 4))) : vrf p msg sig = false := by
  unfold vrf
  rw [decide_eq_false (fun hc => h ⟨hc.2.1, hc.2.2.1⟩)]
theorem n4_32 (b : List (BitVec 8)) (i c : Nat) (hc : c < 4294967296) : (decide ((val ((b.drop i).take 4)).setWidth 32 = BitVec.ofNat 32 c)) = decide (n4 b i = c) := by
  have h := n4_w b i
  simp only [decide_eq_decide]
  constructor
  · intro hh
    rw [hh, BitVec.toNat_ofNat, Nat.mod_eq_of_lt (by omega)] at h
    omega
  · intro hh
    apply BitVec.eq_of_toNat_eq
    rw [BitVec.toNat_ofNat, Nat.mod_eq_of_lt (by omega)]
    omega
theorem tN_le {p : List (BitVec 8)} (h : okP p) : tN p ≤ 200000 := by
  have hk : IsKind (n4 p 8) := by unfold IsKind; have := h.2; omega
  have := chainsN_le hk
  have := h.1
  unfold tN sizeN; omega
theorem hverify_eq (p msg sig : List (BitVec 8)) (hp : p.length ≤ 2000000000) (hm : msg.length ≤ 2000000000) (hs : sig.length ≤ 2000000000) : hss_Verify p msg sig = some (hvrf p msg sig) := by
  unfold hss_Verify
  by_cases hl : p.length = 60
  · have r1 := rU32_at p 0 (by omega)
    have r2 := rU32_at p 4 (by omega)
    have r3 := rU32_at p 8 (by omega)
    rw [if_f (by simp [hl]), bind_some' (rNew_eq p (by omega))]
    simp only []
    rw [show wire_Reader_U32 (p, false) = _ from r1, Option.bind_some]
    simp only []
    rw [n4_32 p 0 2 (by omega)]
    by_cases h2 : n4 p 0 = 2
    · rw [if_f (by rw [decide_eq_true h2]; decide), show wire_Reader_U32 (p.drop (0 + 4), false) = _ from r2, Option.bind_some]
      simp only []
      rw [show wire_Reader_U32 (p.drop (4 + 4), false) = _ from r3, Option.bind_some, bind_some' (rNew_eq sig (by omega))]
      simp only []
      have e1 : (((val (List.take 4 (List.drop 4 p))).setWidth 32).toNat : Int) = (n4 p 4 : Int) := n4_w p 4
      have e2 : (((val (List.take 4 (List.drop 8 p))).setWidth 32).toNat : Int) = (n4 p 8 : Int) := n4_w p 8
      rw [e1, e2]
      by_cases h4 : 4 ≤ sig.length
      · have r4 := rU32_at sig 0 (by omega)
        rw [show wire_Reader_U32 (sig, false) = _ from r4, Option.bind_some]
        simp only []
        rw [n4_32 sig 0 1 (by omega)]
        by_cases h5 : n4 sig 0 = 1
        · rw [if_f (by rw [decide_eq_true h5]; decide)]
          by_cases hk : okP p
          · have hh : IsH (n4 p 4) := by have := hk.1; unfold IsH; omega
            have hkk : IsKind (n4 p 8) := by have := hk.2; unfold IsKind; omega
            have htn := tN_le hk
            rw [bind_some' (lsize_eq hh hkk)]
            have ht : 8 + sizeN (n4 p 8) + 32 * n4 p 4 = tN p := rfl
            rw [ht]
            clear ht
            by_cases h6 : 4 + tN p ≤ sig.length
            · have r5 := rPlain_at sig 4 (tN p) h6
              rw [show wire_Reader_Plain (sig.drop (0 + 4), false) (tN p : Int) = _ from r5, Option.bind_some]
              simp only []
              by_cases h7 : 60 + tN p ≤ sig.length
              · have r6 : wire_Reader_Plain (sig.drop (4 + tN p), false) (56 : Int) = _ := rPlain_at sig (4 + tN p) 56 (by omega)
                rw [bind_some' r6]
                simp only []
                have hln : (sig.drop (4 + tN p + 56)).length = sig.length - (60 + tN p) := by rw [List.length_drop]; omega
                have r7 := rPlain_at sig (4 + tN p + 56) (sig.drop (4 + tN p + 56)).length (by omega)
                have hL : wire_Reader_Left (sig.drop (4 + tN p + 56), false) = some ((sig.drop (4 + tN p + 56)).length : Int) := rfl
                rw [bind_some' hL, bind_some' r7]
                simp only []
                have hF : wire_Reader_Fails (sig.drop (4 + tN p + 56 + (sig.drop (4 + tN p + 56)).length), false) = some false := rfl
                have s1 : lslice p (4 : Int) (p.length : Int) = some (p.drop 4) := by rw [lslice_at (lo := (4 : Int)) (a := 4) rfl rfl (by omega) (Nat.le_refl _), List.take_length]
                rw [bind_some' hF, if_t (by rfl), bind_some' s1, List.take_length, show 4 + tN p + 56 = 60 + tN p by omega]
                have q1 : (p.drop 4).length ≤ 4000000000 := by rw [List.length_drop]; omega
                have q2 : ((sig.drop (4 + tN p)).take 56).length ≤ 2000000000 := by rw [List.length_take]; omega
                have q3 : ((sig.drop 4).take (tN p)).length ≤ 2000000000 := by rw [List.length_take]; omega
                have q4 : (sig.drop (60 + tN p)).length ≤ 2000000000 := by rw [List.length_drop]; omega
                have q5 : ((sig.drop (4 + tN p)).take 56).length ≤ 4000000000 := by rw [List.length_take]; omega
                rw [bind_some' (lverify_eq _ _ _ q1 q2 q3), Option.bind_some]
                by_cases v1 : vrf (p.drop 4) ((sig.drop (4 + tN p)).take 56) ((sig.drop 4).take (tN p)) = true
                · rw [if_t v1, bind_some' (lverify_eq _ _ _ q5 hm q4), Option.bind_some]
                  refine congrArg some ?_
                  unfold hvrf
                  by_cases v2 : vrf ((sig.drop (4 + tN p)).take 56) msg (sig.drop (60 + tN p)) = true
                  · exact v2.trans (decide_eq_true ⟨hl, h2, h4, h5, hk, h7, v1, v2⟩).symm
                  · rw [decide_eq_false (fun hc => v2 hc.2.2.2.2.2.2.2)]
                    simpa using v2
                · rw [if_f v1, Option.bind_some]
                  refine congrArg some ?_
                  unfold hvrf
                  rw [decide_eq_false (fun hc => v1 hc.2.2.2.2.2.2.1)]
              · have r6 : wire_Reader_Plain (sig.drop (4 + tN p), false) (56 : Int) = some ((sig.drop (4 + tN p), true), []) := rPlain_short _ _ (by right; rw [List.length_drop]; omega)
                rw [bind_some' r6]
                simp only []
                have hL : wire_Reader_Left (sig.drop (4 + tN p), true) = some ((sig.drop (4 + tN p)).length : Int) := rfl
                rw [bind_some' hL, bind_some' (rPlain_failed _ _)]
                simp only []
                have hF : wire_Reader_Fails (sig.drop (4 + tN p), true) = some true := rfl
                rw [bind_some' hF, if_f (by decide), Option.bind_some, if_f (by decide), Option.bind_some]
                refine congrArg some ?_
                unfold hvrf
                rw [decide_eq_false (fun hc => h7 hc.2.2.2.2.2.1)]
            · have r5 : wire_Reader_Plain (sig.drop (0 + 4), false) (tN p : Int) = some ((sig.drop (0 + 4), true), []) := rPlain_short _ _ (by right; rw [List.length_drop]; omega)
              rw [bind_some' r5]
              simp only []
              rw [bind_some' (rPlain_failed _ _)]
              simp only []
              have hL : wire_Reader_Left (sig.drop (0 + 4), true) = some ((sig.drop (0 + 4)).length : Int) := rfl
              rw [bind_some' hL, bind_some' (rPlain_failed _ _)]
              simp only []
              have hF : wire_Reader_Fails (sig.drop (0 + 4), true) = some true := rfl
              rw [bind_some' hF, if_f (by decide), Option.bind_some, if_f (by decide), Option.bind_some]
              refine congrArg some ?_
              unfold hvrf
              rw [decide_eq_false (fun hc => h6 (by have := hc.2.2.2.2.2.1; omega))]
          · have hv : hvrf p msg sig = false := by unfold hvrf; rw [decide_eq_false (fun hc => hk hc.2.2.2.2.1)]
            rw [hv, bind_some' (lsize_no (by unfold okP at hk; omega))]
            have r5 : wire_Reader_Plain (sig.drop (0 + 4), false) (0 : Int) = some ((sig.drop (4 + 0), false), (sig.drop 4).take 0) := rPlain_at sig 4 0 (by omega)
            rw [bind_some' r5]
            simp only []
            by_cases h7 : 60 ≤ sig.length
            · have r6 : wire_Reader_Plain (sig.drop (4 + 0), false) (56 : Int) = _ := rPlain_at sig 4 56 (by omega)
              rw [bind_some' r6]
              simp only []
              have hln : (sig.drop (4 + 56)).length = sig.length - 60 := by rw [List.length_drop]
              have r7 := rPlain_at sig (4 + 56) (sig.drop (4 + 56)).length (by omega)
              have hL : wire_Reader_Left (sig.drop (4 + 56), false) = some ((sig.drop (4 + 56)).length : Int) := rfl
              rw [bind_some' hL, bind_some' r7]
              simp only []
              have hF : wire_Reader_Fails (sig.drop (4 + 56 + (sig.drop (4 + 56)).length), false) = some false := rfl
              have s1 : lslice p (4 : Int) (p.length : Int) = some (p.drop 4) := by rw [lslice_at (lo := (4 : Int)) (a := 4) rfl rfl (by omega) (Nat.le_refl _), List.take_length]
              have q1 : (p.drop 4).length ≤ 4000000000 := by rw [List.length_drop]; omega
              have q2 : ((sig.drop 4).take 56).length ≤ 2000000000 := by rw [List.length_take]; omega
              have q3 : ((sig.drop 4).take 0).length ≤ 2000000000 := by rw [List.length_take]; omega
              have hvn : vrf (p.drop 4) ((sig.drop 4).take 56) ((sig.drop 4).take 0) = false := vrf_no (by rw [n4_drop, n4_drop]; exact hk)
              rw [bind_some' hF, if_t (by rfl), bind_some' s1, bind_some' (lverify_eq _ _ _ q1 q2 q3), hvn, Option.bind_some, if_f (by decide), Option.bind_some]
            · have r6 : wire_Reader_Plain (sig.drop (4 + 0), false) (56 : Int) = some ((sig.drop (4 + 0), true), []) := rPlain_short _ _ (by right; rw [List.length_drop]; omega)
              rw [bind_some' r6]
              simp only []
              have hL : wire_Reader_Left (sig.drop (4 + 0), true) = some ((sig.drop (4 + 0)).length : Int) := rfl
              rw [bind_some' hL, bind_some' (rPlain_failed _ _)]
              simp only []
              have hF : wire_Reader_Fails (sig.drop (4 + 0), true) = some true := rfl
              rw [bind_some' hF, if_f (by decide), Option.bind_some, if_f (by decide), Option.bind_some]
        · rw [if_t (by rw [decide_eq_false h5]; rfl)]
          refine congrArg some ?_
          unfold hvrf
          rw [decide_eq_false (fun hc => h5 hc.2.2.2.1)]
      · rw [bind_some' (rU32_short sig (by omega)), if_t (by simp)]
        refine congrArg some ?_
        unfold hvrf
        rw [decide_eq_false (fun hc => h4 hc.2.2.1)]
    · rw [if_t (by rw [decide_eq_false h2]; rfl)]
      refine congrArg some ?_
      unfold hvrf
      rw [decide_eq_false (fun hc => h2 hc.2.1)]
  · rw [if_t (by simp; omega)]
    refine congrArg some ?_
    unfold hvrf
    rw [decide_eq_false (fun hc => hl hc.1)]
theorem n4_64 (b : List (BitVec 8)) (i c : Nat) (hc : c < 4294967296) : (decide (val ((b.drop i).take 4) = BitVec.ofNat 64 c)) = decide (n4 b i = c) := by
  simp only [decide_eq_decide]
  exact n4_bv b i c hc
theorem hrverify_eq (p msg sig : List (BitVec 8)) (hp : p.length ≤ 2000000000) (hm : msg.length ≤ 2000000000) (hs : sig.length ≤ 2000000000) : rolodexref06_Verify p msg sig = some (hvrf p msg sig) := by
  unfold rolodexref06_Verify
  have v0 : ∀ (b : List (BitVec 8)) i, rolodexref01_Value ((b.drop i).take 4) = some (val ((b.drop i).take 4)) := fun b i => value_eq _ (by rw [List.length_take]; omega)
  by_cases hl : p.length = 60
  · rw [if_f (by simp [hl]), Option.bind_some]
    by_cases h4 : 4 ≤ sig.length
    · rw [if_f (by rw [decide_eq_true_eq]; omega), bind_some' (rsl4 p 0 4 0 rfl rfl (by omega)), bind_some' (v0 p 0), n4_64 p 0 2 (by omega), Option.bind_some]
      by_cases h2 : n4 p 0 = 2
      · rw [if_f (by rw [decide_eq_true h2]; decide), bind_some' (rsl4 sig 0 4 0 rfl rfl (by omega)), bind_some' (v0 sig 0), n4_64 sig 0 1 (by omega), Option.bind_some]
        by_cases h5 : n4 sig 0 = 1
        · rw [if_f (by rw [decide_eq_true h5]; decide), bind_some' (rsl4 p 4 8 4 rfl rfl (by omega)), bind_some' (v0 p 4), bind_some' (rsl4 p 8 12 8 rfl rfl (by omega)), bind_some' (v0 p 8), bv_le4, bv_le4, w64_n4, w64_n4]
          by_cases hk : okP p
          · have hh : IsH (n4 p 4) := by have := hk.1; unfold IsH; omega
            have hkk : IsKind (n4 p 8) := by have := hk.2; unfold IsKind; omega
            have htn := tN_le hk
            have hk1 := hk.1
            have hk2 := hk.2
            have ht : 8 + sizeN (n4 p 8) + 32 * n4 p 4 = tN p := rfl
            rw [if_f (by rw [decide_eq_true_eq]; omega), Option.bind_some, if_f (by rw [decide_eq_true_eq]; omega), bind_some' (rsizeT_eq hh hkk), ht]
            have ht0 : 0 < tN p := by unfold tN; omega
            clear ht
            have w1 : w64 ((60 : Int) + (tN p : Int)) = ((60 + tN p : Nat) : Int) := by rw [w64_id (by omega) (by omega)]; rfl
            have w2 : w64 ((4 : Int) + (tN p : Int)) = ((4 + tN p : Nat) : Int) := by clear w1; rw [w64_id (by omega) (by omega)]; rfl
            rw [w1, w2]
            clear w1 w2
            rw [if_f (by rw [decide_eq_true_eq]; omega), Option.bind_some]
            by_cases h7 : 60 + tN p ≤ sig.length
            · have s5 : lslice sig (((4 + tN p : Nat) : Int)) (((60 + tN p : Nat) : Int)) = some ((sig.drop (4 + tN p)).take 56) := by
                rw [lslice_at rfl rfl (by omega) h7, List.drop_take, show 60 + tN p - (4 + tN p) = 56 by omega]
              have s6 : lslice p (4 : Int) (60 : Int) = some (p.drop 4) := by
                rw [lslice_at (lo := (4 : Int)) (hi := (60 : Int)) (a := 4) (b := 60) rfl rfl (by omega) (by omega), List.take_of_length_le (by omega)]
              have s7 : lslice sig (4 : Int) (((4 + tN p : Nat) : Int)) = some ((sig.drop 4).take (tN p)) := by
                rw [lslice_at (lo := (4 : Int)) (a := 4) rfl rfl (by omega) (by omega), List.drop_take, Nat.add_sub_cancel_left]
              have s8 : lslice sig (((60 + tN p : Nat) : Int)) (sig.length : Int) = some (sig.drop (60 + tN p)) := by
                rw [lslice_at rfl rfl h7 (Nat.le_refl _), List.take_length]
              have q1 : (p.drop 4).length ≤ 4000000000 := by rw [List.length_drop]; omega
              have q2 : ((sig.drop (4 + tN p)).take 56).length ≤ 2000000000 := by rw [List.length_take]; omega
              have q3 : ((sig.drop 4).take (tN p)).length ≤ 2000000000 := by rw [List.length_take]; omega
              have q4 : (sig.drop (60 + tN p)).length ≤ 2000000000 := by rw [List.length_drop]; omega
              have q5 : ((sig.drop (4 + tN p)).take 56).length ≤ 4000000000 := by rw [List.length_take]; omega
              rw [if_f (by rw [decide_eq_true_eq]; omega), bind_some' s5, bind_some' s6, bind_some' s7, bind_some' (rverify_eq _ _ _ q1 q2 q3)]
              by_cases v1 : vrf (p.drop 4) ((sig.drop (4 + tN p)).take 56) ((sig.drop 4).take (tN p)) = true
              · rw [if_t v1, bind_some' s8, bind_some' (rverify_eq _ _ _ q5 hm q4), Option.bind_some]
                refine congrArg some ?_
                unfold hvrf
                by_cases v2 : vrf ((sig.drop (4 + tN p)).take 56) msg (sig.drop (60 + tN p)) = true
                · exact v2.trans (decide_eq_true ⟨hl, h2, h4, h5, hk, h7, v1, v2⟩).symm
                · rw [decide_eq_false (fun hc => v2 hc.2.2.2.2.2.2.2)]
                  simpa using v2
              · rw [if_f v1, Option.bind_some]
                refine congrArg some ?_
                unfold hvrf
                rw [decide_eq_false (fun hc => v1 hc.2.2.2.2.2.2.1)]
            · rw [if_t (by rw [decide_eq_true_eq]; omega)]
              refine congrArg some ?_
              unfold hvrf
              rw [decide_eq_false (fun hc => h7 hc.2.2.2.2.2.1)]
          · have hv : hvrf p msg sig = false := by unfold hvrf; rw [decide_eq_false (fun hc => hk hc.2.2.2.2.1)]
            rw [hv]
            by_cases d1 : 4 < n4 p 4
            · rw [if_t (decide_eq_true d1), Option.bind_some, if_t rfl]
            · rw [if_f (by rw [decide_eq_true_eq]; exact d1), Option.bind_some]
              by_cases d2 : 4 < n4 p 8
              · rw [if_t (decide_eq_true d2)]
              · rw [if_f (by rw [decide_eq_true_eq]; exact d2), bind_some' (rsizeT_no (by unfold okP at hk; omega)), if_t (by rfl), Option.bind_some, if_t rfl]
        · rw [if_t (by rw [decide_eq_false h5]; rfl)]
          refine congrArg some ?_
          unfold hvrf
          rw [decide_eq_false (fun hc => h5 hc.2.2.2.1)]
      · rw [if_t (by rw [decide_eq_false h2]; rfl), Option.bind_some, if_t rfl]
        refine congrArg some ?_
        unfold hvrf
        rw [decide_eq_false (fun hc => h2 hc.2.1)]
    · rw [if_t (by rw [decide_eq_true_eq]; omega), Option.bind_some, if_t rfl, Option.bind_some, if_t rfl]
      refine congrArg some ?_
      unfold hvrf
      rw [decide_eq_false (fun hc => h4 hc.2.2.1)]
  · rw [if_t (by simp; omega), Option.bind_some, if_t rfl, Option.bind_some, if_t rfl, Option.bind_some, if_t rfl]
    refine congrArg some ?_
    unfold hvrf
    rw [decide_eq_false (fun hc => hl hc.1)]
theorem hssVerifies (p msg sig : List (BitVec 8)) : rolodexlaw06_HssVerifies p msg sig = some true := by
  unfold rolodexlaw06_HssVerifies
  rw [bind_some' awake06, if_f (by decide), Option.bind_some]
  by_cases h1 : 200 < p.length
  · rw [if_t (by rw [decide_eq_true_eq]; omega), Option.bind_some, if_t rfl, Option.bind_some, if_t rfl, bind_some' awake06]
  · rw [if_f (by rw [decide_eq_true_eq]; omega), Option.bind_some]
    by_cases h2 : 300 < msg.length
    · rw [if_t (by rw [decide_eq_true_eq]; omega), Option.bind_some, if_t rfl, bind_some' awake06]
    · rw [if_f (by rw [decide_eq_true_eq]; omega), Option.bind_some]
      by_cases h3 : 9000 < sig.length
      · rw [if_t (by rw [decide_eq_true_eq]; omega), bind_some' awake06]
      · rw [if_f (by rw [decide_eq_true_eq]; omega), bind_some' (hverify_eq p msg sig (by omega) (by omega) (by omega)), bind_some' (hrverify_eq p msg sig (by omega) (by omega) (by omega))]
        simp
/-! ## What was signed is right -/
end Go.Sl.Pu
