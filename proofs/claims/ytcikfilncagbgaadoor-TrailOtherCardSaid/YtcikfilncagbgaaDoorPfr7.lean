import Derived.Test.YtcikfilncagbgaaDoorPfr6
set_option linter.unusedSimpArgs false
set_option linter.unusedVariables false
set_option maxRecDepth 20000
/-! The laws of the frontier. -/
namespace Go.Sl.Pu
open Go.Sl Go.Sl.M Go.Sl.Fr
attribute [local irreducible] sha nd w64 p2 hsh segs
theorem bor_f {c : Bool} {A : Option Bool} (h : c = false) : (if c = true then some true else A) = A := by rw [h]; rfl
theorem segs03 : segs 0 3 = [1, 0] := segs_uniq (by omega) ⟨by decide, ⟨by decide, by decide, by decide⟩, by decide, ⟨by decide, by decide, by decide⟩, rfl⟩
theorem awake15 : rolodexlaw15_awake = some true := by
  unfold rolodexlaw15_awake
  rw [Option.bind_some, Option.bind_some, Option.bind_some]
  have h := of_eq' [#v[1#8, 0#8, 0#8, 0#8, 0#8, 0#8, 0#8, 0#8, 0#8, 0#8, 0#8, 0#8, 0#8, 0#8, 0#8, 0#8, 0#8, 0#8, 0#8, 0#8, 0#8, 0#8, 0#8, 0#8, 0#8, 0#8, 0#8, 0#8, 0#8, 0#8, 0#8, 0#8], #v[2#8, 0#8, 0#8, 0#8, 0#8, 0#8, 0#8, 0#8, 0#8, 0#8, 0#8, 0#8, 0#8, 0#8, 0#8, 0#8, 0#8, 0#8, 0#8, 0#8, 0#8, 0#8, 0#8, 0#8, 0#8, 0#8, 0#8, 0#8, 0#8, 0#8, 0#8, 0#8], #v[3#8, 0#8, 0#8, 0#8, 0#8, 0#8, 0#8, 0#8, 0#8, 0#8, 0#8, 0#8, 0#8, 0#8, 0#8, 0#8, 0#8, 0#8, 0#8, 0#8, 0#8, 0#8, 0#8, 0#8, 0#8, 0#8, 0#8, 0#8, 0#8, 0#8, 0#8, 0#8]] 0 (by simp)
  have h' : frontier_Of (0 : Int) _ = _ := h
  rw [bind_some' h']
  simp only []
  rw [hsh_len]
  simp only [List.length_cons, List.length_nil, Nat.zero_add]
  rw [segs03]
  rfl
theorem frontierHashes (b : List (BitVec 8)) (x y : T_api_Hash) : rolodexlaw15_FrontierHashes b x y = some true := by
  unfold rolodexlaw15_FrontierHashes
  rw [bind_some' awake15, if_f (by decide), Option.bind_some]
  by_cases hb : 500 < b.length
  · rw [if_t (by rw [decide_eq_true_eq]; omega), bind_some' awake15]
  · rw [if_f (by rw [decide_eq_true_eq]; omega), bind_some' (leaf_eq b (by omega)), bind_some' (rleaf_eq b (by omega)), if_t (decide_eq_true rfl), bind_some' (node_eq x y), bind_some' (rnode_eq x y), Option.bind_some, decide_eq_true rfl]
theorem ints_eq (a b : List Int) (ha : a.length ≤ 4294967296) : rolodexref04_Ints a b = some (decide (a = b)) := by
  unfold rolodexref04_Ints
  by_cases hl : a.length = b.length
  · rw [if_f (by simp [hl])]
    have h1 := eqscan (f := fun (s : Int) => rolodexref04_Ints_L1 a b s) a b hl (by omega) (fun i h1 h2 => by
      simp only [rolodexref04_Ints_L1]
      rw [if_t (by rw [decide_eq_true_eq]; omega), bind_some' (lget_at rfl h1), bind_some' (lget_at rfl h2), w64_id (by omega) (by omega)]
      by_cases he : a[i] = b[i]
      · rw [if_f (by simp [he]), if_pos he]
      · rw [if_t (by simp [he]), if_neg he]) (by
      simp only [rolodexref04_Ints_L1]
      rw [if_f (by rw [decide_eq_true_eq]; omega)])
    rw [bind_some' h1]
    by_cases hab : a = b
    · rw [if_pos hab, decide_eq_true hab]
    · rw [if_neg hab, decide_eq_false hab]
  · rw [if_t (by simp; omega), decide_eq_false (fun h => hl (by rw [h]))]
theorem p2_and (k : Nat) (h : k < 31) : iand (p2 k) (w64 (p2 k - 1)) = 0 := by
  have : ∀ k : Fin 31, iand (((2 ^ k.val : Nat) : Int)) (((2 ^ k.val : Nat) : Int) - 1) = 0 := by with_unfolding_all decide
  have h1 := this ⟨k, h⟩
  have hk : 2 ^ k < 2 ^ 31 := Nat.pow_lt_pow_right (by omega) h
  have := two_pos k
  unfold p2
  rw [w64_id (by omega) (by omega)]
  exact h1
theorem seg_loop (S : List Int) (hS : S.length ≤ 62) {e : Nat} (he : e ≤ 2147483647) : ∀ (ks : List Nat) (p i fuel : Nat), Seg p e ks → S.drop i = ks.map p2 → i + ks.length = S.length → ks.length < fuel →
    loopO (fun (s : Int × Int) => rolodexlaw15_FrontierSegments_L1 S s.1 s.2) fuel ((p : Int), (i : Int)) = some (.inl ((e : Int), (S.length : Int))) := by
  intro ks
  induction ks with
  | nil =>
    intro p i fuel hs h1 hi hfu
    obtain ⟨fuel, rfl⟩ : ∃ m, fuel = m + 1 := ⟨fuel - 1, by omega⟩
    have hp : p = e := hs
    simp only [List.length_nil, Nat.add_zero] at hi
    rw [loopO_brk (s' := ((p : Int), (i : Int))) (by
      simp only [rolodexlaw15_FrontierSegments_L1]
      rw [if_f (by rw [decide_eq_true_eq]; omega)]), hp, hi]
  | cons k ks ih =>
    intro p i fuel hs h1 hi hfu
    obtain ⟨fuel, rfl⟩ : ∃ m, fuel = m + 1 := ⟨fuel - 1, by omega⟩
    simp only [List.length_cons] at hfu hi
    have hi1 : i < S.length := by omega
    rw [List.drop_eq_getElem_cons hi1] at h1
    injection h1 with h1 h1'
    have hg : lget S (i : Int) = some (p2 k) := by rw [lget_at rfl hi1, h1]
    have hsz := hs.2.1.1
    have hdv := hs.2.1.2.1
    have hle := seg_le _ _ _ hs.2.2
    have hk0 := two_pos k
    have hk := pow_lt63 (k := k) (n := e) (by omega) he
    have hpos := p2_pos k
    have hand := p2_and k hk
    rw [loopO_next (s' := (((p + 2 ^ k : Nat) : Int), ((i + 1 : Nat) : Int))) (by
      simp only [rolodexlaw15_FrontierSegments_L1]
      rw [if_t (by rw [decide_eq_true_eq]; omega), bind_some' hg, if_f (by rw [decide_eq_true_eq]; omega), bind_some' hg, bind_some' hg, Option.bind_some, hand, if_f (by simp), bind_some' hg, if_t (by omega), Option.bind_some,
        if_f (by
          simp only [Bool.not_eq_true', decide_eq_false_iff_not, Decidable.not_not]
          unfold p2
          exact (tmod_dvd p _).2 hdv), bind_some' hg, show w64 ((p : Int) + p2 k) = ((p + 2 ^ k : Nat) : Int) by unfold p2; rw [w64_id (by omega) (by omega)]; omega, w64_id (n := (i : Int) + 1) (by omega) (by omega)]
      rfl), ih (p + 2 ^ k) (i + 1) fuel hs.2.2 h1' (by omega) (by omega)]
theorem frontierSegments (a e : Int) : rolodexlaw15_FrontierSegments a e = some true := by
  unfold rolodexlaw15_FrontierSegments
  by_cases h : 0 ≤ a ∧ a ≤ e ∧ e ≤ 2147483647
  · obtain ⟨a, rfl⟩ : ∃ n : Nat, a = (n : Int) := ⟨a.toNat, by omega⟩
    obtain ⟨e, rfl⟩ : ∃ n : Nat, e = (n : Int) := ⟨e.toNat, by omega⟩
    have h1 : a ≤ e := by omega
    have h2 : e ≤ 2147483647 := by omega
    have hs := segs_spec h1
    have h62 := seg62 hs h2
    rw [bind_some' (segments_eq a e h1 h2), bind_some' awake15, if_f (by decide), bind_some' (rsegments_eq a e h1 h2), bind_some' (ints_eq _ _ (by rw [List.length_map]; omega)), Option.bind_some, if_f (by simp), bind_some' (rmay_eq _ _), if_f (by simp; omega)]
    have hl : loopO (fun (s : Int × Int) => rolodexlaw15_FrontierSegments_L1 ((segs a e).map p2) s.1 s.2) FU ((a : Int), (0 : Int)) = _ := seg_loop ((segs a e).map p2) (by rw [List.length_map]; exact h62) h2 (segs a e) a 0 FU hs rfl (by simp) (fu_lt (by omega))
    rw [bind_some' hl]
    simp only []
    rw [if_t (by simp), Option.bind_some, decide_eq_true (by rw [List.length_map]; omega)]
  · rw [bind_some' (segments_no h), bind_some' awake15, if_f (by decide), bind_some' (rsegments_no h), bind_some' (ints_eq _ _ (by simp)), Option.bind_some, if_f (by simp), bind_some' (rmay_eq _ _), if_t (by rw [decide_eq_false h]; rfl)]
    rfl
theorem root_any (r : T_frontier_Range) (h : r.2.2.length ≤ 4000000000) : frontier_Root r = some (rootS r) := root_eq r h
theorem frontierRanges (a : Int) (l : List T_api_Hash) : rolodexlaw15_FrontierRanges a l = some true := by
  unfold rolodexlaw15_FrontierRanges
  rw [bind_some' awake15, if_f (by decide), Option.bind_some]
  by_cases hb : 60 < l.length
  · rw [if_t (by rw [decide_eq_true_eq]; omega), bind_some' awake15]
  · rw [if_f (by rw [decide_eq_true_eq]; omega)]
    by_cases h : 0 ≤ a ∧ a + l.length ≤ 2147483647
    · obtain ⟨a, rfl⟩ : ∃ n : Nat, a = (n : Int) := ⟨a.toNat, by omega⟩
      have h1 : a + l.length ≤ 2147483647 := by omega
      have hlen := hsh_le a l
      rw [bind_some' (of_eq' l a h1), bind_some' (rof_eq l a h1), bind_some' (root_eq _ (by simp only []; omega)), if_f (by simp)]
      simp only []
      rw [show rolodexlaw15_to ((a : Int), ((a + l.length : Nat) : Int), hsh a l) = some ((a : Int), ((a + l.length : Nat) : Int), hsh a l) from rfl, Option.bind_some, bind_some' (ranges_eq _ _ (by simp only []; omega)), Option.bind_some, if_f (by simp), if_t (by simp), bind_some' (formed_eq _), formed_of a l h1, Option.bind_some, Option.bind_some, if_f (by decide)]
      by_cases h0 : a = 0
      · subst h0
        have hr := root_of l (by omega)
        rw [if_f (by simp), if_t (by simp), Option.bind_some, Nat.zero_add]
        rw [show (rootS (((0 : Nat) : Int), ((l.length : Nat) : Int), hsh 0 l)) = (mth l, 0) from hr]
        rw [if_t (by simp), bind_some' (rlist_eq l (by omega)), Option.bind_some]
        simp
      · rw [if_t (by simp; omega), Option.bind_some]
    · rw [bind_some' (of_no l a (by omega) h), bind_some' (rof_no l a (by omega) h), bind_some' (root_eq _ (by simp)), if_f (by simp)]
      simp only []
      rw [show rolodexlaw15_to ((0 : Int), (0 : Int), ([] : List T_api_Hash)) = some ((0 : Int), (0 : Int), ([] : List T_api_Hash)) from rfl, Option.bind_some, bind_some' (ranges_eq _ _ (by simp)), Option.bind_some, if_f (by simp), if_f (by decide), Option.bind_some, Option.bind_some, if_f (by decide), if_t (by simp; omega), Option.bind_some]
theorem frontierJoins (a b : T_rolodexref15_Range) : rolodexlaw15_FrontierJoins a b = some true := by
  unfold rolodexlaw15_FrontierJoins
  rw [bind_some' awake15, if_f (by decide), Option.bind_some]
  by_cases ha : 70 < a.2.2.length
  · rw [if_t (by rw [decide_eq_true_eq]; omega), Option.bind_some, if_t rfl, bind_some' awake15]
  · rw [if_f (by rw [decide_eq_true_eq]; omega), Option.bind_some]
    by_cases hb : 70 < b.2.2.length
    · rw [if_t (by rw [decide_eq_true_eq]; omega), bind_some' awake15]
    · rw [if_f (by rw [decide_eq_true_eq]; omega), bind_some' (join_eq a b), bind_some' (rjoin_eq a b), bind_some' (root_eq a (by omega)), bind_some' (rroot_eq a (by omega)), if_t (by simp)]
      have hl : (joinS a b).1.2.2.length ≤ 4294967296 := by
        unfold joinS
        split
        · rename_i h
          obtain ⟨a1, a2, a3, a4⟩ := row_fw h.1
          obtain ⟨b1, b2, b3, b4⟩ := row_fw h.2.1
          obtain ⟨la1, la2, la3, la4⟩ := formed_le h.1
          obtain ⟨lb1, lb2, lb3, lb4⟩ := formed_le h.2.1
          have hf : Fw a.1.toNat (rowR a ++ rowR b) b.2.1.toNat := fw_app _ _ _ _ _ a1 (by rw [h.2.2]; exact b1)
          have := ct_len _ _ (puts_ct nd _ [] a.1.toNat _ rfl hf)
          show (hof _).length ≤ _
          unfold hof
          rw [List.length_map, List.length_reverse]
          omega
        · simp
      rw [show rolodexlaw15_to (joinS a b).1 = some (joinS a b).1 from rfl, Option.bind_some, bind_some' (ranges_eq _ _ hl), Option.bind_some, decide_eq_true rfl, if_t rfl, Option.bind_some, decide_eq_true rfl, if_t rfl, Option.bind_some, decide_eq_true rfl, if_t rfl, bind_some' (formed_eq a), bind_some' (rformed_eq a), Option.bind_some]
      simp
/-! ## Joins of lists' ranges -/
theorem fw_memle {H : Type} : ∀ (L : List (P H)) (a e : Nat) (x : P H), Fw a L e → x ∈ L → a ≤ x.1 ∧ x.1 + 2 ^ x.2.1 ≤ e
  | y :: L, a, e, x, h, hx => by
    have hle := fw_le _ _ _ h.2.2
    have h1 := h.1
    rcases List.mem_cons.1 hx with rfl | hx
    · omega
    · have := fw_memle L _ _ x h.2.2 hx
      have := two_pos y.2.1
      omega
theorem row_of (a : Nat) (l : List T_api_Hash) : rowR ((a : Int), ((a + l.length : Nat) : Int), hsh a l) = (cst a l).reverse := by
  unfold rowR
  simp only [Int.toNat_natCast]
  exact hsh_lay a l
theorem nf_of_ct {H : Type} {st : List (P H)} (h : Nf st) (nd : H → H → H) : puts nd [] st.reverse = st := by
  rw [puts_of_nf nd _ [] (nf_rev st h) (fun y hy => by cases hy)]; simp
theorem leaves_app {H : Type} : ∀ (l m : List H) (a : Nat), leaves a (l ++ m) = leaves a l ++ leaves (a + l.length) m
  | [], m, a => rfl
  | x :: l, m, a => by
    show (a, 0, x) :: leaves (a + 1) (l ++ m) = _
    rw [leaves_app l m (a + 1), List.length_cons, show a + 1 + l.length = a + (l.length + 1) by omega]; rfl
theorem cst_app (a : Nat) (l m : List T_api_Hash) : puts nd (cst a l) (cst (a + l.length) m).reverse = cst a (l ++ m) := by
  have r1 := rows (a + l.length) m
  have h1 : Ct a (puts nd (cst a l) (cst (a + l.length) m).reverse) (a + (l ++ m).length) := by
    rw [List.length_append, ← Nat.add_assoc]; exact puts_ct nd _ _ _ _ (cst_ct a l) r1.1
  have h2 : Nf (puts nd (cst a l) (cst (a + l.length) m).reverse) := puts_nf nd _ _ (cst_nf a l)
  have hv : ∀ p k, a ≤ p → p + 2 ^ (k + 1) ≤ a + (l ++ m).length → 2 ^ (k + 1) ∣ p → vt a (l ++ m) p (k + 1) = nd (vt a (l ++ m) p k) (vt a (l ++ m) (p + 2 ^ k) k) := fun p k h1 h2 _ => vt_step h1 h2
  have hv1 : Hs (vt a (l ++ m)) (cst a l) := by
    intro x hx
    rw [cst_hs a l x hx]
    have hm := fw_memle _ _ _ _ (rows a l).1 (List.mem_reverse.2 hx)
    have hk0 := two_pos x.2.1
    unfold vt
    rw [List.drop_append_of_le_length (by omega), List.take_append_of_le_length (by rw [List.length_drop]; omega)]
  have hv2 : Hs (vt a (l ++ m)) (cst (a + l.length) m).reverse := by
    intro x hx
    rw [r1.2.2 x hx]
    have hm := fw_memle _ _ _ _ r1.1 hx
    unfold vt
    rw [show x.1 - a = l.length + (x.1 - (a + l.length)) by omega, ← List.drop_drop, List.drop_left]
  have h3 : Hs (vt a (l ++ m)) (puts nd (cst a l) (cst (a + l.length) m).reverse) := puts_hs hv _ _ _ _ (cst_ct a l) r1.1 (by rw [List.length_append]; omega) hv1 hv2
  have r2 := rows a (l ++ m)
  have := canon_uniq (ct_fw _ _ _ h1) (nf_rev _ h2) (hs_rev h3) r2.1 r2.2.1 r2.2.2
  exact List.reverse_inj.1 this
theorem join_of (a : Nat) (l m : List T_api_Hash) (h : a + l.length + m.length ≤ 2147483647) : joinS ((a : Int), ((a + l.length : Nat) : Int), hsh a l) (((a + l.length : Nat) : Int), ((a + l.length + m.length : Nat) : Int), hsh (a + l.length) m) = (((a : Int), ((a + (l ++ m).length : Nat) : Int), hsh a (l ++ m)), 0) := by
  unfold joinS
  rw [if_pos ⟨formed_of a l (by omega), formed_of (a + l.length) m h, rfl⟩, row_of, row_of]
  have h1 : puts nd [] ((cst a l).reverse ++ (cst (a + l.length) m).reverse) = cst a (l ++ m) := by
    unfold puts
    rw [List.foldl_append]
    show puts nd (puts nd [] (cst a l).reverse) _ = _
    rw [nf_of_ct (cst_nf a l), cst_app]
  rw [h1, List.length_append, ← Nat.add_assoc]
  refine congrArg (fun v => (((a : Int), ((a + l.length + m.length : Nat) : Int), v), (0 : Int))) ?_
  unfold hsh; rfl
end Go.Sl.Pu
