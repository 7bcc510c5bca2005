import Derived.Test.YtcikfilncagbgaaDoorPfr8
import Derived.Test.YtcikfilncagbgaaDoorPtr1
set_option linter.unusedSimpArgs false
set_option linter.unusedVariables false
set_option maxRecDepth 20000
/-! Trails: what the program and the reference tell; the laws that compare them. -/
namespace Go.Sl.Pu
open Go.Sl Go.Sl.M Go.Sl.Fr
attribute [local irreducible] sha nd w64 p2 hsh segs
/-! ## Trails of lists -/
noncomputable def entS (l : List T_api_Hash) (i : Int) : T_trail_Trail × Int := if 0 ≤ i ∧ i < l.length then ((hsh 0 (l.take i.toNat), hsh (i.toNat + 1) (l.drop (i.toNat + 1))), 0) else (([], []), 4)
noncomputable def groS (l : List T_api_Hash) (i : Int) : T_trail_Trail × Int := if 0 ≤ i ∧ i ≤ l.length then ((hsh 0 (l.take i.toNat), hsh i.toNat (l.drop i.toNat)), 0) else (([], []), 4)
theorem tof_eq {l : List T_api_Hash} {a b : Nat} (h1 : a ≤ b) (h2 : b ≤ l.length) (h3 : l.length ≤ 2147483647) : trail_of l (a : Int) (b : Int) = some (hsh a ((l.take b).drop a)) := by
  unfold trail_of
  have hl : ((l.take b).drop a).length = b - a := by rw [List.length_drop, List.length_take]; omega
  rw [bind_some' (lslice_at rfl rfl h1 h2), bind_some' (ofP (t := b) (by rw [hl]; omega) (by omega))]
  rfl
theorem entry_eq (l : List T_api_Hash) (i : Int) (hl : l.length ≤ 2147483647) : trail_Entry l i = some (entS l i) := by
  unfold trail_Entry entS
  by_cases h : 0 ≤ i ∧ i < l.length
  · obtain ⟨i, rfl⟩ : ∃ n : Nat, i = (n : Int) := ⟨i.toNat, by omega⟩
    have h1 : i < l.length := by omega
    have t1 : trail_of l (0 : Int) (i : Int) = some (hsh 0 (l.take i)) := tof_eq (a := 0) (b := i) (Nat.zero_le _) (by omega) hl
    have w1 : w64 ((i : Int) + 1) = ((i + 1 : Nat) : Int) := w64_p1 _ (by omega)
    have t2 : trail_of l (w64 ((i : Int) + 1)) (l.length : Int) = some (hsh (i + 1) (l.drop (i + 1))) := by
      rw [w1, tof_eq (a := i + 1) (b := l.length) (by omega) (Nat.le_refl _) hl, List.take_length]
    rw [if_f (by rw [decide_eq_true_eq]; omega), Option.bind_some, if_f (by rw [decide_eq_true_eq]; omega), bind_some' t1, bind_some' t2, Option.bind_some, if_pos h]
    rfl
  · rw [if_neg h]
    by_cases h0 : i < 0
    · rw [if_t (by rw [decide_eq_true_eq]; exact h0), Option.bind_some, if_t rfl, Option.bind_some]
    · rw [if_f (by rw [decide_eq_true_eq]; exact h0), Option.bind_some, if_t (by rw [decide_eq_true_eq]; omega), Option.bind_some]
theorem growth_eq (l : List T_api_Hash) (i : Int) (hl : l.length ≤ 2147483647) : trail_Growth l i = some (groS l i) := by
  unfold trail_Growth groS
  by_cases h : 0 ≤ i ∧ i ≤ l.length
  · obtain ⟨i, rfl⟩ : ∃ n : Nat, i = (n : Int) := ⟨i.toNat, by omega⟩
    have h1 : i ≤ l.length := by omega
    have t1 : trail_of l (0 : Int) (i : Int) = some (hsh 0 (l.take i)) := tof_eq (a := 0) (b := i) (Nat.zero_le _) (by omega) hl
    have t2 : trail_of l (i : Int) (l.length : Int) = some (hsh i (l.drop i)) := by
      rw [tof_eq (a := i) (b := l.length) (by omega) (Nat.le_refl _) hl, List.take_length]
    rw [if_f (by rw [decide_eq_true_eq]; omega), Option.bind_some, if_f (by rw [decide_eq_true_eq]; omega), bind_some' t1, bind_some' t2, Option.bind_some, if_pos h]
    rfl
  · rw [if_neg h]
    by_cases h0 : i < 0
    · rw [if_t (by rw [decide_eq_true_eq]; exact h0), Option.bind_some, if_t rfl, Option.bind_some]
    · rw [if_f (by rw [decide_eq_true_eq]; exact h0), Option.bind_some, if_t (by rw [decide_eq_true_eq]; omega), Option.bind_some]
theorem rofP {s t : Nat} {l : List T_api_Hash} (h : s + l.length = t) (ht : t ≤ 2147483647) : rolodexref15_Of (s : Int) l = some (rg s t (hsh s l), (0 : Int)) := by
  subst h; exact rof_eq l s ht
theorem rentry_eq (l : List T_api_Hash) (i : Int) (hl : l.length ≤ 2147483647) : rolodexref16_Entry l i = some (entS l i) := by
  unfold rolodexref16_Entry entS
  by_cases h : 0 ≤ i ∧ i < l.length
  · obtain ⟨i, rfl⟩ : ∃ n : Nat, i = (n : Int) := ⟨i.toNat, by omega⟩
    have h1 : i < l.length := by omega
    have e1 : (l.take i).length = i := by rw [List.length_take]; omega
    have t1 : rolodexref15_Of (0 : Int) (l.take i) = some (rg 0 i (hsh 0 (l.take i)), (0 : Int)) := rofP (s := 0) (by omega) (by omega)
    have w1 : w64 ((i : Int) + 1) = ((i + 1 : Nat) : Int) := w64_p1 _ (by omega)
    have t2 : rolodexref15_Of (w64 ((i : Int) + 1)) (l.drop (i + 1)) = some (rg (i + 1) l.length (hsh (i + 1) (l.drop (i + 1))), (0 : Int)) := by
      rw [w1]; exact rofP (by rw [List.length_drop]; omega) hl
    rw [if_f (by rw [decide_eq_true_eq]; omega), Option.bind_some, if_f (by rw [decide_eq_true_eq]; omega), bind_some' (lslice_at (lo := (0 : Int)) (a := 0) (b := i) rfl rfl (by omega) (by omega)), List.drop_zero, bind_some' t1, bind_some' (lslice_at (a := i + 1) (b := l.length) w1 rfl (by omega) (Nat.le_refl _)), List.take_length, bind_some' t2, Option.bind_some, if_pos h]
    rfl
  · rw [if_neg h]
    by_cases h0 : i < 0
    · rw [if_t (by rw [decide_eq_true_eq]; exact h0), Option.bind_some, if_t rfl, Option.bind_some]
    · rw [if_f (by rw [decide_eq_true_eq]; exact h0), Option.bind_some, if_t (by rw [decide_eq_true_eq]; omega), Option.bind_some]
theorem rgrowth_eq (l : List T_api_Hash) (i : Int) (hl : l.length ≤ 2147483647) : rolodexref16_Growth l i = some (groS l i) := by
  unfold rolodexref16_Growth groS
  by_cases h : 0 ≤ i ∧ i ≤ l.length
  · obtain ⟨i, rfl⟩ : ∃ n : Nat, i = (n : Int) := ⟨i.toNat, by omega⟩
    have h1 : i ≤ l.length := by omega
    have e1 : (l.take i).length = i := by rw [List.length_take]; omega
    have t1 : rolodexref15_Of (0 : Int) (l.take i) = some (rg 0 i (hsh 0 (l.take i)), (0 : Int)) := rofP (s := 0) (by omega) (by omega)
    have t2 : rolodexref15_Of (i : Int) (l.drop i) = some (rg i l.length (hsh i (l.drop i)), (0 : Int)) := rofP (by rw [List.length_drop]; omega) hl
    rw [if_f (by rw [decide_eq_true_eq]; omega), Option.bind_some, if_f (by rw [decide_eq_true_eq]; omega), bind_some' (lslice_at (lo := (0 : Int)) (a := 0) (b := i) rfl rfl (by omega) (by omega)), List.drop_zero, bind_some' t1, bind_some' (lslice_at (a := i) (b := l.length) rfl rfl (by omega) (Nat.le_refl _)), List.take_length, bind_some' t2, Option.bind_some, if_pos h]
    rfl
  · rw [if_neg h]
    by_cases h0 : i < 0
    · rw [if_t (by rw [decide_eq_true_eq]; exact h0), Option.bind_some, if_t rfl, Option.bind_some]
    · rw [if_f (by rw [decide_eq_true_eq]; exact h0), Option.bind_some, if_t (by rw [decide_eq_true_eq]; omega), Option.bind_some]
/-! ## Joins -/
theorem joinS_len (a b : T_frontier_Range) : (joinS a b).1.2.2.length ≤ 2147483647 := by
  unfold joinS
  split
  · rename_i h
    obtain ⟨a1, a2, a3, a4⟩ := row_fw h.1
    obtain ⟨b1, b2, b3, b4⟩ := row_fw h.2.1
    obtain ⟨la1, la2, la3, la4⟩ := formed_le h.1
    obtain ⟨lb1, lb2, lb3, lb4⟩ := formed_le h.2.1
    have hf : Fw a.1.toNat (rowR a ++ rowR b) b.2.1.toNat := fw_app _ _ _ _ _ a1 (by rw [h.2.2]; exact b1)
    have := ct_len _ _ (puts_ct nd _ [] a.1.toNat _ rfl hf)
    show (hof _).length ≤ _
    unfold hof
    rw [List.length_map, List.length_reverse]
    omega
  · simp
theorem joinS_ok {a b : T_frontier_Range} (h : (joinS a b).2 = 0) : formed a = true ∧ formed b = true ∧ a.2.1 = b.1 := by
  unfold joinS at h
  split at h
  · assumption
  · cases h
/-- What is joined is formed, and has the row of what was put. -/
theorem joinS_row {a b : T_frontier_Range} (h : formed a = true ∧ formed b = true ∧ a.2.1 = b.1) : joinS a b = ((a.1, b.2.1, hof (puts nd [] (rowR a ++ rowR b))), 0) ∧ formed (joinS a b).1 = true ∧ rowR (joinS a b).1 = (puts nd [] (rowR a ++ rowR b)).reverse := by
  have hj : joinS a b = ((a.1, b.2.1, hof (puts nd [] (rowR a ++ rowR b))), 0) := by unfold joinS; rw [if_pos h]
  obtain ⟨a1, a2, a3, a4⟩ := row_fw h.1
  obtain ⟨b1, b2, b3, b4⟩ := row_fw h.2.1
  obtain ⟨la1, la2, la3, la4⟩ := formed_le h.1
  obtain ⟨lb1, lb2, lb3, lb4⟩ := formed_le h.2.1
  have hf : Fw a.1.toNat (rowR a ++ rowR b) b.2.1.toNat := fw_app _ _ _ _ _ a1 (by rw [h.2.2]; exact b1)
  have hc := puts_ct nd _ [] a.1.toNat _ rfl hf
  have hn : Nf (puts nd [] (rowR a ++ rowR b)) := puts_nf nd _ [] trivial
  have hw := ct_fw _ _ _ hc
  have hs := seg_of_nf _ _ _ hw (nf_rev _ hn)
  have hab := h.2.2
  have hu := segs_uniq (show a.1.toNat ≤ b.2.1.toNat by omega) hs
  have hl := fw_le _ _ _ hw
  refine ⟨hj, ?_, ?_⟩
  · rw [hj]
    exact formed_iff.2 ⟨a.1.toNat, b.2.1.toNat, by simp only []; omega, by simp only []; omega, by omega, by omega, by rw [hu]; simp [hof]⟩
  · rw [hj]
    unfold rowR
    simp only []
    rw [hu]
    exact lay_eq _ _ _ hw
theorem formed_nil (n : Nat) (h : n ≤ 2147483647) : formed (rg n n []) = true ∧ rowR (rg n n []) = [] := by
  have hs : segs n n = [] := segs_uniq (Nat.le_refl _) rfl
  refine ⟨formed_iff.2 ⟨n, n, rfl, rfl, Nat.le_refl _, h, by rw [hs]; rfl⟩, ?_⟩
  unfold rowR rg
  simp only [Int.toNat_natCast]
  rw [hs]; rfl
/-- Nothing more is joined. -/
theorem join_nil {r : T_frontier_Range} {n : Nat} (h : formed r = true) (hn : r.2.1 = (n : Int)) (h2 : n ≤ 2147483647) : joinS r (rg n n []) = (r, 0) := by
  obtain ⟨f1, f2⟩ := formed_nil n h2
  obtain ⟨j1, j2, j3⟩ := joinS_row (a := r) (b := rg n n []) ⟨h, f1, hn⟩
  obtain ⟨a1, a2, a3, a4⟩ := row_fw h
  rw [j1, f2, List.append_nil, puts_of_nf nd _ [] a2 (fun y hy => by cases hy), List.append_nil]
  have : hof (rowR r).reverse = r.2.2 := by rw [← a4]; simp [hof, hh]
  rw [this]
  show ((r.1, (n : Int), r.2.2), (0 : Int)) = (r, 0)
  rw [← hn]
/-! ## Right trails -/
noncomputable def allS (a b c : T_frontier_Range) : Bool := decide ((joinS a b).2 = 0 ∧ (joinS (joinS a b).1 c).2 = 0 ∧ (rootS (joinS (joinS a b).1 c).1).2 = 0)
theorem rall_eq (a b c : T_frontier_Range) : rolodexref16_All a b c = some ((rootS (joinS (joinS a b).1 c).1).1, allS a b c) := by
  unfold rolodexref16_All allS
  rw [bind_some' (rjoin_eq a b), bind_some' (rjoin_eq _ c), bind_some' (rroot_eq _ (Nat.le_trans (joinS_len _ _) (by omega)))]
  by_cases h1 : (joinS a b).2 = 0 <;> by_cases h2 : (joinS (joinS a b).1 c).2 = 0 <;> by_cases h3 : (rootS (joinS (joinS a b).1 c).1).2 = 0 <;> simp [h1, h2, h3]
noncomputable def isE (t : T_trail_Trail) (i n : Int) (h root : T_api_Hash) : Bool :=
  decide (0 ≤ i ∧ i < n ∧ n ≤ 2147483647 ∧ allS (0, i, t.1) (i, i + 1, [h]) (i + 1, n, t.2) = true ∧ (rootS (joinS (joinS (0, i, t.1) (i, i + 1, [h])).1 (i + 1, n, t.2)).1).1 = root)
theorem rooted3 (root : T_api_Hash) (a b c : T_frontier_Range) : trail_rooted root [a, b, c] = some (decide (allS a b c = true ∧ (rootS (joinS (joinS a b).1 c).1).1 = root)) := by
  unfold trail_rooted
  rw [bind_some' (lget_at (i := (0 : Int)) (k := 0) rfl (by simp)), bind_some' (lslice_at (lo := (1 : Int)) (hi := (([a, b, c] : List T_frontier_Range).length : Int)) (a := 1) (b := 3) rfl rfl (by omega) (by simp))]
  have e1 : List.drop 1 (List.take 3 [a, b, c]) = [b, c] := rfl
  rw [e1]
  have w1 : w64 ((0 : Int) + 1) = 1 := by rw [w64_id (by omega) (by omega)]; rfl
  have w2 : w64 ((1 : Int) + 1) = 2 := by rw [w64_id (by omega) (by omega)]; rfl
  obtain ⟨fuel, hfu⟩ : ∃ m, FU = m + 3 := ⟨FU - 3, by unfold FU; rfl⟩
  have e0 : ([a, b, c] : List T_frontier_Range)[0] = a := rfl
  simp only [e0]
  by_cases h1 : (joinS a b).2 = 0
  · have s1 : trail_rooted_L1 [b, c] (0 : Int) a = some (.next ((1 : Int), (joinS a b).1)) := by
      simp only [trail_rooted_L1]
      rw [if_t (by simp), bind_some' (lget_at (i := (0 : Int)) (k := 0) rfl (by simp))]
      show Option.bind (frontier_Join a b) _ = _
      rw [bind_some' (join_eq a b), if_f (by simp [h1]), w1]
    by_cases h2 : (joinS (joinS a b).1 c).2 = 0
    · have s2 : trail_rooted_L1 [b, c] (1 : Int) (joinS a b).1 = some (.next ((2 : Int), (joinS (joinS a b).1 c).1)) := by
        simp only [trail_rooted_L1]
        rw [if_t (by simp), bind_some' (lget_at (i := (1 : Int)) (k := 1) rfl (by simp))]
        show Option.bind (frontier_Join (joinS a b).1 c) _ = _
        rw [bind_some' (join_eq _ c), if_f (by simp [h2]), w2]
      have hl : loopO (fun (s : Int × T_frontier_Range) => trail_rooted_L1 [b, c] s.1 s.2) FU ((0 : Int), a) = some (.inl ((2 : Int), (joinS (joinS a b).1 c).1)) := by
        rw [hfu, loopO_next (f := fun (s : Int × T_frontier_Range) => trail_rooted_L1 [b, c] s.1 s.2) (s := ((0 : Int), a)) s1, loopO_next (f := fun (s : Int × T_frontier_Range) => trail_rooted_L1 [b, c] s.1 s.2) (s := ((1 : Int), _)) s2, loopO_brk (s' := ((2 : Int), (joinS (joinS a b).1 c).1)) (by
          simp only [trail_rooted_L1]
          rw [if_f (by simp)])]
      rw [bind_some' hl]
      simp only []
      rw [bind_some' (root_eq _ (Nat.le_trans (joinS_len _ _) (by omega)))]
      unfold allS
      by_cases h3 : (rootS (joinS (joinS a b).1 c).1).2 = 0 <;> simp [h1, h2, h3]
    · have s2 : trail_rooted_L1 [b, c] (1 : Int) (joinS a b).1 = some (.ret false) := by
        simp only [trail_rooted_L1]
        rw [if_t (by simp), bind_some' (lget_at (i := (1 : Int)) (k := 1) rfl (by simp))]
        show Option.bind (frontier_Join (joinS a b).1 c) _ = _
        rw [bind_some' (join_eq _ c), if_t (by simp [h2])]
      have hl : loopO (fun (s : Int × T_frontier_Range) => trail_rooted_L1 [b, c] s.1 s.2) FU ((0 : Int), a) = some (.inr false) := by
        rw [hfu, loopO_next (f := fun (s : Int × T_frontier_Range) => trail_rooted_L1 [b, c] s.1 s.2) (s := ((0 : Int), a)) s1, loopO_ret (f := fun (s : Int × T_frontier_Range) => trail_rooted_L1 [b, c] s.1 s.2) (s := ((1 : Int), _)) s2]
      rw [bind_some' hl]
      unfold allS
      simp [h2]
  · have s1 : trail_rooted_L1 [b, c] (0 : Int) a = some (.ret false) := by
      simp only [trail_rooted_L1]
      rw [if_t (by simp), bind_some' (lget_at (i := (0 : Int)) (k := 0) rfl (by simp))]
      show Option.bind (frontier_Join a b) _ = _
      rw [bind_some' (join_eq a b), if_t (by simp [h1])]
    have hl : loopO (fun (s : Int × T_frontier_Range) => trail_rooted_L1 [b, c] s.1 s.2) FU ((0 : Int), a) = some (.inr false) := by
      rw [hfu, loopO_ret (f := fun (s : Int × T_frontier_Range) => trail_rooted_L1 [b, c] s.1 s.2) (s := ((0 : Int), a)) s1]
    rw [bind_some' hl]
    unfold allS
    simp [h1]
theorem rooted1 (root : T_api_Hash) (a : T_frontier_Range) (ha : a.2.2.length ≤ 4000000000) : trail_rooted root [a] = some (decide ((rootS a).2 = 0 ∧ (rootS a).1 = root)) := by
  unfold trail_rooted
  rw [bind_some' (lget_at (i := (0 : Int)) (k := 0) rfl (by simp)), bind_some' (lslice_at (lo := (1 : Int)) (hi := (([a] : List T_frontier_Range).length : Int)) (a := 1) (b := 1) rfl rfl (by omega) (by simp))]
  obtain ⟨fuel, hfu⟩ : ∃ m, FU = m + 1 := ⟨FU - 1, by unfold FU; rfl⟩
  have hl : loopO (fun (s : Int × T_frontier_Range) => trail_rooted_L1 [] s.1 s.2) FU ((0 : Int), a) = some (.inl ((0 : Int), a)) := by
    rw [hfu, loopO_brk (s' := ((0 : Int), a)) (by
      simp only [trail_rooted_L1]
      rw [if_f (by simp)])]
  show Option.bind (loopO (fun (s : Int × T_frontier_Range) => trail_rooted_L1 [] s.1 s.2) FU ((0 : Int), a)) _ = _
  rw [bind_some' hl]
  simp only []
  rw [bind_some' (root_eq _ ha)]
  by_cases h3 : (rootS a).2 = 0 <;> simp [h3]
theorem rooted2 (root : T_api_Hash) (a b : T_frontier_Range) : trail_rooted root [a, b] = some (decide ((joinS a b).2 = 0 ∧ (rootS (joinS a b).1).2 = 0 ∧ (rootS (joinS a b).1).1 = root)) := by
  unfold trail_rooted
  rw [bind_some' (lget_at (i := (0 : Int)) (k := 0) rfl (by simp)), bind_some' (lslice_at (lo := (1 : Int)) (hi := (([a, b] : List T_frontier_Range).length : Int)) (a := 1) (b := 2) rfl rfl (by omega) (by simp))]
  have w1 : w64 ((0 : Int) + 1) = 1 := by rw [w64_id (by omega) (by omega)]; rfl
  obtain ⟨fuel, hfu⟩ : ∃ m, FU = m + 2 := ⟨FU - 2, by unfold FU; rfl⟩
  show Option.bind (loopO (fun (s : Int × T_frontier_Range) => trail_rooted_L1 [b] s.1 s.2) FU ((0 : Int), a)) _ = _
  by_cases h1 : (joinS a b).2 = 0
  · have s1 : trail_rooted_L1 [b] (0 : Int) a = some (.next ((1 : Int), (joinS a b).1)) := by
      simp only [trail_rooted_L1]
      rw [if_t (by simp), bind_some' (lget_at (i := (0 : Int)) (k := 0) rfl (by simp))]
      show Option.bind (frontier_Join a b) _ = _
      rw [bind_some' (join_eq a b), if_f (by simp [h1]), w1]
    have hl : loopO (fun (s : Int × T_frontier_Range) => trail_rooted_L1 [b] s.1 s.2) FU ((0 : Int), a) = some (.inl ((1 : Int), (joinS a b).1)) := by
      rw [hfu, loopO_next (f := fun (s : Int × T_frontier_Range) => trail_rooted_L1 [b] s.1 s.2) (s := ((0 : Int), a)) s1, loopO_brk (s' := ((1 : Int), (joinS a b).1)) (by
        simp only [trail_rooted_L1]
        rw [if_f (by simp)])]
    rw [bind_some' hl]
    simp only []
    rw [bind_some' (root_eq _ (Nat.le_trans (joinS_len _ _) (by omega)))]
    by_cases h3 : (rootS (joinS a b).1).2 = 0 <;> simp [h1, h3]
  · have s1 : trail_rooted_L1 [b] (0 : Int) a = some (.ret false) := by
      simp only [trail_rooted_L1]
      rw [if_t (by simp), bind_some' (lget_at (i := (0 : Int)) (k := 0) rfl (by simp))]
      show Option.bind (frontier_Join a b) _ = _
      rw [bind_some' (join_eq a b), if_t (by simp [h1])]
    have hl : loopO (fun (s : Int × T_frontier_Range) => trail_rooted_L1 [b] s.1 s.2) FU ((0 : Int), a) = some (.inr false) := by
      rw [hfu, loopO_ret (f := fun (s : Int × T_frontier_Range) => trail_rooted_L1 [b] s.1 s.2) (s := ((0 : Int), a)) s1]
    rw [bind_some' hl]
    simp [h1]
theorem isE_eq (t : T_trail_Trail) (i n : Int) (h root : T_api_Hash) : trail_IsEntry t i n h root = some (isE t i n h root) := by
  unfold trail_IsEntry isE
  by_cases h1 : i < 0
  · rw [if_t (decide_eq_true h1), Option.bind_some, if_t rfl, Option.bind_some, if_t rfl, decide_eq_false (fun hh => by omega)]
  · rw [if_f (by rw [decide_eq_true_eq]; exact h1), Option.bind_some]
    by_cases h2 : n ≤ i
    · rw [if_t (decide_eq_true h2), Option.bind_some, if_t rfl, decide_eq_false (fun hh => by omega)]
    · rw [if_f (by rw [decide_eq_true_eq]; exact h2), Option.bind_some]
      by_cases h3 : 2147483647 < n
      · rw [if_t (decide_eq_true h3), decide_eq_false (fun hh => by omega)]
      · rw [if_f (by rw [decide_eq_true_eq]; exact h3), Option.bind_some, Option.bind_some, Option.bind_some, w64_id (n := i + 1) (by omega) (by omega), bind_some' (rooted3 _ _ _ _)]
        simp only [Option.some.injEq, decide_eq_decide]
        constructor
        · intro hh; exact ⟨by omega, by omega, by omega, hh⟩
        · intro hh; exact hh.2.2.2
theorem risE_eq (t : T_trail_Trail) (i n : Int) (h root : T_api_Hash) : rolodexref16_IsEntry t i n h root = some (isE t i n h root) := by
  unfold rolodexref16_IsEntry isE
  by_cases h1 : i < 0
  · rw [if_t (decide_eq_true h1), Option.bind_some, if_t rfl, Option.bind_some, if_t rfl, decide_eq_false (fun hh => by omega)]
  · rw [if_f (by rw [decide_eq_true_eq]; exact h1), Option.bind_some]
    by_cases h2 : n ≤ i
    · rw [if_t (decide_eq_true h2), Option.bind_some, if_t rfl, decide_eq_false (fun hh => by omega)]
    · rw [if_f (by rw [decide_eq_true_eq]; exact h2), Option.bind_some]
      by_cases h3 : 2147483647 < n
      · rw [if_t (decide_eq_true h3), decide_eq_false (fun hh => by omega)]
      · rw [if_f (by rw [decide_eq_true_eq]; exact h3), Option.bind_some, Option.bind_some, Option.bind_some, w64_id (n := i + 1) (by omega) (by omega), bind_some' (rall_eq _ _ _)]
        have g : 0 ≤ i ∧ i < n ∧ n ≤ 2147483647 := ⟨by omega, by omega, by omega⟩
        by_cases h4 : allS (0, i, t.1) (i, i + 1, [h]) (i + 1, n, t.2) = true <;> simp [h4, g]
noncomputable def isG (t : T_trail_Trail) (m n : Int) (old root : T_api_Hash) : Bool :=
  decide (0 ≤ m ∧ m ≤ n ∧ n ≤ 2147483647 ∧ (rootS (0, m, t.1)).2 = 0 ∧ (rootS (0, m, t.1)).1 = old ∧ (joinS (0, m, t.1) (m, n, t.2)).2 = 0 ∧ (rootS (joinS (0, m, t.1) (m, n, t.2)).1).2 = 0 ∧ (rootS (joinS (0, m, t.1) (m, n, t.2)).1).1 = root)
theorem isG_eq (t : T_trail_Trail) (m n : Int) (old root : T_api_Hash) (ht : t.1.length ≤ 4000000000) : trail_IsGrowth t m n old root = some (isG t m n old root) := by
  unfold trail_IsGrowth isG
  by_cases h1 : m < 0
  · rw [if_t (decide_eq_true h1), Option.bind_some, if_t rfl, Option.bind_some, if_t rfl, decide_eq_false (fun hh => by omega)]
  · rw [if_f (by rw [decide_eq_true_eq]; exact h1), Option.bind_some]
    by_cases h2 : n < m
    · rw [if_t (decide_eq_true h2), Option.bind_some, if_t rfl, decide_eq_false (fun hh => by omega)]
    · rw [if_f (by rw [decide_eq_true_eq]; exact h2), Option.bind_some]
      by_cases h3 : 2147483647 < n
      · rw [if_t (decide_eq_true h3), decide_eq_false (fun hh => by omega)]
      · rw [if_f (by rw [decide_eq_true_eq]; exact h3), Option.bind_some, Option.bind_some, bind_some' (rooted1 _ _ ht), bind_some' (rooted2 _ _ _)]
        have g : 0 ≤ m ∧ m ≤ n ∧ n ≤ 2147483647 := ⟨by omega, by omega, by omega⟩
        by_cases h4 : (rootS (0, m, t.1)).2 = 0 ∧ (rootS (0, m, t.1)).1 = old
        · simp [h4, g]
        · rw [decide_eq_false h4, if_f (by decide), Option.bind_some, decide_eq_false (fun hh => h4 ⟨hh.2.2.2.1, hh.2.2.2.2.1⟩)]
theorem risG_eq (t : T_trail_Trail) (m n : Int) (old root : T_api_Hash) (ht : t.1.length ≤ 4000000000) : rolodexref16_IsGrowth t m n old root = some (isG t m n old root) := by
  unfold rolodexref16_IsGrowth isG
  by_cases h1 : m < 0
  · rw [if_t (decide_eq_true h1), Option.bind_some, if_t rfl, Option.bind_some, if_t rfl, decide_eq_false (fun hh => by omega)]
  · rw [if_f (by rw [decide_eq_true_eq]; exact h1), Option.bind_some]
    by_cases h2 : n < m
    · rw [if_t (decide_eq_true h2), Option.bind_some, if_t rfl, decide_eq_false (fun hh => by omega)]
    · rw [if_f (by rw [decide_eq_true_eq]; exact h2), Option.bind_some]
      by_cases h3 : 2147483647 < n
      · rw [if_t (decide_eq_true h3), decide_eq_false (fun hh => by omega)]
      · rw [if_f (by rw [decide_eq_true_eq]; exact h3), Option.bind_some, bind_some' (rroot_eq _ ht), Option.bind_some, Option.bind_some, bind_some' (rall_eq _ _ _)]
        have g : 0 ≤ m ∧ m ≤ n ∧ n ≤ 2147483647 := ⟨by omega, by omega, by omega⟩
        by_cases h5 : (joinS (0, m, t.1) (m, n, t.2)).2 = 0
        · have hok := joinS_ok h5
          obtain ⟨j1, j2, j3⟩ := joinS_row hok
          have hn : (joinS (0, m, t.1) (m, n, t.2)).1.2.1 = ((n.toNat : Nat) : Int) := by
            rw [j1]; show n = _; omega
          have hz : joinS (joinS (0, m, t.1) (m, n, t.2)).1 (n, n, []) = ((joinS (0, m, t.1) (m, n, t.2)).1, 0) := by
            have := join_nil j2 hn (by omega)
            unfold rg at this
            rw [show ((n.toNat : Nat) : Int) = n by omega] at this
            exact this
          unfold allS
          rw [hz]
          by_cases h4 : (rootS (0, m, t.1)).2 = 0 <;> by_cases h6 : (rootS (0, m, t.1)).1 = old <;> by_cases h7 : (rootS (joinS (0, m, t.1) (m, n, t.2)).1).2 = 0 <;> simp [h4, h5, h6, h7, g]
        · unfold allS
          by_cases h4 : (rootS (0, m, t.1)).2 = 0 <;> by_cases h6 : (rootS (0, m, t.1)).1 = old <;> simp [h4, h5, h6]
/-! ## Laws -/
theorem awake16 : rolodexlaw16_awake = some true := by
  unfold rolodexlaw16_awake
  rw [Option.bind_some, Option.bind_some, bind_some' (isE_eq _ _ _ _ _)]
  generalize (#v[5#8, 0#8, 0#8, 0#8, 0#8, 0#8, 0#8, 0#8, 0#8, 0#8, 0#8, 0#8, 0#8, 0#8, 0#8, 0#8, 0#8, 0#8, 0#8, 0#8, 0#8, 0#8, 0#8, 0#8, 0#8, 0#8, 0#8, 0#8, 0#8, 0#8, 0#8, 0#8] : T_api_Hash) = x
  have h1 : joinS (0, 0, []) (0, 0 + 1, [x]) = (rg 0 1 [x], 0) := by
    have := joinP (s := 0) (t := 0) (u := 1) (l := []) (m := [x]) rfl rfl (by omega)
    rw [hsh_nil, hsh_one] at this
    exact this.trans (by rw [List.nil_append, hsh_one])
  have h2 : joinS (rg 0 1 [x]) (0 + 1, 1, []) = (rg 0 1 [x], 0) := by
    have := joinP (s := 0) (t := 1) (u := 1) (l := [x]) (m := []) rfl rfl (by omega)
    rw [hsh_nil, hsh_one] at this
    exact this.trans (by rw [List.append_nil, hsh_one])
  have h3 : rootS (rg 0 1 [x]) = (x, 0) := by
    have := rootP [x] (by simp)
    rw [hsh_one, mth_one] at this
    exact this
  unfold isE allS
  simp only []
  rw [h1]
  simp only []
  rw [h2, h3]
  simp
theorem rsame_eq (a b : T_rolodexref16_Trail) (h1 : a.1.length ≤ 4294967296) (h2 : a.2.length ≤ 4294967296) : rolodexref16_Same a b = some (decide (a = b)) := by
  unfold rolodexref16_Same
  rw [bind_some' (hsame_eq _ _ h1)]
  by_cases e1 : a.1 = b.1
  · rw [decide_eq_true e1, if_t rfl, bind_some' (hsame_eq _ _ h2), Option.bind_some]
    obtain ⟨a1, a2⟩ := a
    obtain ⟨b1, b2⟩ := b
    have : a1 = b1 := e1
    simp [this]
  · rw [decide_eq_false e1, if_f (by decide), Option.bind_some, decide_eq_false (fun h => e1 (by rw [h]))]
theorem entS_len (l : List T_api_Hash) (i : Int) : (entS l i).1.1.length ≤ l.length ∧ (entS l i).1.2.length ≤ l.length := by
  unfold entS
  split
  · have h1 := hsh_le 0 (l.take i.toNat)
    have h2 := hsh_le (i.toNat + 1) (l.drop (i.toNat + 1))
    rw [List.length_take] at h1
    rw [List.length_drop] at h2
    exact ⟨by show (hsh _ _).length ≤ _; omega, by show (hsh _ _).length ≤ _; omega⟩
  · simp
theorem groS_len (l : List T_api_Hash) (i : Int) : (groS l i).1.1.length ≤ l.length ∧ (groS l i).1.2.length ≤ l.length := by
  unfold groS
  split
  · have h1 := hsh_le 0 (l.take i.toNat)
    have h2 := hsh_le (i.toNat) (l.drop (i.toNat))
    rw [List.length_take] at h1
    rw [List.length_drop] at h2
    exact ⟨by show (hsh _ _).length ≤ _; omega, by show (hsh _ _).length ≤ _; omega⟩
  · simp
theorem trailTells (l : List T_api_Hash) (i : Int) : rolodexlaw16_TrailTells l i = some true := by
  unfold rolodexlaw16_TrailTells
  rw [bind_some' awake16, if_f (by decide), Option.bind_some]
  by_cases hb : 50 < l.length
  · rw [if_t (by rw [decide_eq_true_eq]; omega), bind_some' awake16]
  · have hl : l.length ≤ 2147483647 := by omega
    obtain ⟨e1, e2⟩ := entS_len l i
    obtain ⟨g1, g2⟩ := groS_len l i
    rw [if_f (by rw [decide_eq_true_eq]; omega), bind_some' (entry_eq l i hl), bind_some' (rentry_eq l i hl), bind_some' (growth_eq l i hl), bind_some' (rgrowth_eq l i hl), if_t (decide_eq_true rfl), decide_eq_true rfl, Option.bind_some, if_t rfl,
      bind_some' (rsame_eq _ _ (by omega) (by omega)), Option.bind_some, decide_eq_true rfl, if_t rfl, bind_some' (rsame_eq _ _ (by omega) (by omega)), Option.bind_some, decide_eq_true rfl]
theorem few_eq (t : T_rolodexref16_Trail) : rolodexlaw16_few t = some (decide (t.1.length ≤ 70 ∧ t.2.length ≤ 70)) := by
  unfold rolodexlaw16_few
  by_cases h : t.1.length ≤ 70
  · rw [if_t (by rw [decide_eq_true_eq]; omega), Option.bind_some]
    simp only [Option.some.injEq, decide_eq_decide]
    omega
  · rw [if_f (by rw [decide_eq_true_eq]; omega), Option.bind_some, decide_eq_false (by omega)]
theorem trailChecks (t : T_rolodexref16_Trail) (s : T_rolodexlaw16_Said) : rolodexlaw16_TrailChecks t s = some true := by
  unfold rolodexlaw16_TrailChecks
  rw [bind_some' awake16, if_f (by decide), bind_some' (few_eq t), Option.bind_some]
  by_cases hf : t.1.length ≤ 70 ∧ t.2.length ≤ 70
  · have ht : t.1.length ≤ 4000000000 := by omega
    rw [if_f (by simp [hf]), bind_some' (isE_eq _ _ _ _ _), bind_some' (risE_eq _ _ _ _ _), if_f (by simp), bind_some' (isG_eq _ _ _ _ _ ht), bind_some' (risG_eq _ _ _ _ _ ht), Option.bind_some, if_f (by simp)]
    by_cases h1 : s.1 < 0
    · rw [if_t (decide_eq_true h1), Option.bind_some, if_t rfl, Option.bind_some, if_t rfl]
    · rw [if_f (by rw [decide_eq_true_eq]; exact h1), Option.bind_some]
      by_cases h2 : s.2.1 ≤ s.1
      · rw [if_t (decide_eq_true h2), Option.bind_some, if_t rfl]
      · rw [if_f (by rw [decide_eq_true_eq]; exact h2), Option.bind_some]
        by_cases h3 : 2147483647 < s.2.1
        · rw [if_t (decide_eq_true h3)]
        · rw [if_f (by rw [decide_eq_true_eq]; exact h3), Option.bind_some, Option.bind_some, Option.bind_some, bind_some' (rall_eq _ _ _), bind_some' (rroot_eq _ ht), Option.bind_some, Option.bind_some, bind_some' (rall_eq _ _ _),
            bind_some' (isE_eq _ _ _ _ _), bind_some' (risE_eq _ _ _ _ _), if_t (by simp), bind_some' (isG_eq _ _ _ _ _ ht), bind_some' (risG_eq _ _ _ _ _ ht), Option.bind_some]
          simp
  · rw [if_t (by rw [decide_eq_false hf]; rfl), bind_some' awake16]
theorem isE_right (l : List T_api_Hash) (i : Nat) (hi : i < l.length) (hl : l.length ≤ 2147483647) : isE (entS l i).1 i l.length l[i] (mth l) = true := by
  have he : entS l i = ((hsh 0 (l.take i), hsh (i + 1) (l.drop (i + 1))), 0) := by
    unfold entS
    rw [if_pos (by omega)]; rfl
  have e1 : (l.take i).length = i := by rw [List.length_take]; omega
  have e2 : (l.drop (i + 1)).length = l.length - (i + 1) := by rw [List.length_drop]
  have e3 : (l.take i ++ [l[i]]).length = i + 1 := by rw [List.length_append, e1]; rfl
  have e4 : (l.take i ++ [l[i]]) ++ l.drop (i + 1) = l := by
    rw [← List.take_succ_eq_append_getElem hi, List.take_append_drop]
  have j1 : joinS (0, (i : Int), hsh 0 (l.take i)) ((i : Int), (i : Int) + 1, [l[i]]) = (rg 0 (i + 1) (hsh 0 (l.take i ++ [l[i]])), 0) := by
    have := joinP (s := 0) (t := i) (u := i + 1) (l := l.take i) (m := [l[i]]) (by omega) rfl (by omega)
    rw [hsh_one] at this
    exact this
  have j2 : joinS (rg 0 (i + 1) (hsh 0 (l.take i ++ [l[i]]))) ((i : Int) + 1, (l.length : Int), hsh (i + 1) (l.drop (i + 1))) = (rg 0 l.length (hsh 0 l), 0) := by
    have := joinP (s := 0) (t := i + 1) (u := l.length) (l := l.take i ++ [l[i]]) (m := l.drop (i + 1)) (by omega) (by omega) hl
    rw [e4] at this
    exact this
  unfold isE allS
  rw [he]
  simp only []
  rw [j1]
  simp only []
  rw [j2, rootP l hl]
  simp
  omega
theorem isG_right (l : List T_api_Hash) (i : Nat) (hi : i ≤ l.length) (hl : l.length ≤ 2147483647) : isG (groS l i).1 i l.length (mth (l.take i)) (mth l) = true := by
  have he : groS l i = ((hsh 0 (l.take i), hsh i (l.drop i)), 0) := by
    unfold groS
    rw [if_pos (by omega)]; rfl
  have e1 : (l.take i).length = i := by rw [List.length_take]; omega
  have e2 : (l.drop i).length = l.length - i := by rw [List.length_drop]
  have j1 : joinS (0, (i : Int), hsh 0 (l.take i)) ((i : Int), (l.length : Int), hsh i (l.drop i)) = (rg 0 l.length (hsh 0 l), 0) := by
    have := joinP (s := 0) (t := i) (u := l.length) (l := l.take i) (m := l.drop i) (by omega) (by omega) hl
    rw [List.take_append_drop] at this
    exact this
  have r1 : rootS (0, (i : Int), hsh 0 (l.take i)) = (mth (l.take i), 0) := by
    have := rootP (l.take i) (by omega)
    rw [e1] at this
    exact this
  unfold isG
  rw [he]
  simp only []
  rw [j1, r1, rootP l hl]
  simp
  omega
theorem trailRight (l : List T_api_Hash) (m : BitVec 8) : rolodexlaw16_TrailRight l m = some true := by
  unfold rolodexlaw16_TrailRight
  rw [bind_some' awake16, if_f (by decide), Option.bind_some]
  by_cases hb : 50 < l.length
  · rw [if_t (by rw [decide_eq_true_eq]; omega), Option.bind_some, if_t rfl, bind_some' awake16]
  · rw [if_f (by rw [decide_eq_true_eq]; omega), Option.bind_some]
    by_cases h0 : l.length = 0
    · rw [if_t (by rw [decide_eq_true_eq]; omega), bind_some' awake16]
    · have hl : l.length ≤ 2147483647 := by omega
      rw [if_f (by rw [decide_eq_true_eq]; omega), if_t (by omega), Option.bind_some]
      have em : Int.tmod (m.toNat : Int) (l.length : Int) = ((m.toNat % l.length : Nat) : Int) := (Int.ofNat_tmod _ _).symm
      have hm : m.toNat % l.length < l.length := Nat.mod_lt _ (by omega)
      rw [em]
      clear em
      generalize m.toNat % l.length = i at hm ⊢
      have w1 : w64 ((i : Int) + 1) = ((i + 1 : Nat) : Int) := w64_p1 _ (by omega)
      have ei : (entS l i).2 = 0 := by unfold entS; rw [if_pos (by omega)]
      have g1 : (groS l ((i + 1 : Nat) : Int)).2 = 0 := by unfold groS; rw [if_pos (by omega)]
      have g0 : (groS l (0 : Int)).2 = 0 := by unfold groS; rw [if_pos (by omega)]
      have lt := groS_len l ((i + 1 : Nat) : Int)
      have lz := groS_len l 0
      have b1 := isE_right l i hm hl
      have b2 := isG_right l (i + 1) hm hl
      have b3 := isG_right l 0 (by omega) hl
      rw [List.take_zero] at b3
      have q1 : i + 1 ≤ l.length := hm
      have q2 : (groS l ((i + 1 : Nat) : Int)).1.1.length ≤ 4000000000 := by omega
      have q3 : (groS l 0).1.1.length ≤ 4000000000 := by omega
      have q4 : (l.take (i + 1)).length ≤ 4000000000 := by rw [List.length_take]; omega
      rw [bind_some' (rlist_eq l (by omega)), bind_some' (entry_eq l i hl), w1, bind_some' (growth_eq l _ hl), bind_some' (growth_eq l _ hl), if_t (decide_eq_true ei), decide_eq_true g1, Option.bind_some, if_t rfl, decide_eq_true g0, Option.bind_some, if_t rfl, bind_some' (lget_at rfl hm), bind_some' (isE_eq _ _ _ _ _), b1, Option.bind_some, if_t rfl,
        bind_some' (lslice_at (lo := (0 : Int)) (a := 0) (b := i + 1) rfl rfl (Nat.zero_le _) q1), List.drop_zero, bind_some' (rlist_eq _ q4), bind_some' (isG_eq _ _ _ _ _ q2), b2, Option.bind_some, if_t rfl, bind_some' (rlist_eq [] (by simp)), bind_some' (isG_eq _ _ _ _ _ q3)]
      rw [show isG (groS l 0).1 0 (l.length : Int) (mth []) (mth l) = true from b3, Option.bind_some]
theorem isE_no {t : T_trail_Trail} {i n : Int} {h root : T_api_Hash} (hf : ¬ (formed (0, i, t.1) = true ∧ formed (i + 1, n, t.2) = true)) : isE t i n h root = false := by
  unfold isE
  rw [decide_eq_false]
  rintro ⟨_, _, _, h4, _⟩
  unfold allS at h4
  rw [decide_eq_true_eq] at h4
  have h5 := joinS_ok h4.1
  have h6 := joinS_ok h4.2.1
  exact hf ⟨h5.1, h6.2.1⟩
theorem formed_len {a e : Nat} {l : List T_api_Hash} (h : formed ((a : Int), (e : Int), l) = true) : l.length = (segs a e).length := by
  obtain ⟨a', e', h1, h2, h3, h4, h5⟩ := formed_iff.1 h
  have : a' = a := by have : (a' : Int) = a := h1.symm; omega
  subst this
  have : e' = e := by have : (e' : Int) = e := h2.symm; omega
  subst this
  exact h5.symm
theorem trailOther (l : List T_api_Hash) (m : BitVec 8) (x : T_api_Hash) : rolodexlaw16_TrailOther l m x = some true := by
  unfold rolodexlaw16_TrailOther
  rw [bind_some' awake16, if_f (by decide), Option.bind_some]
  by_cases hb : 50 < l.length
  · rw [if_t (by rw [decide_eq_true_eq]; omega), Option.bind_some, if_t rfl, bind_some' awake16]
  · rw [if_f (by rw [decide_eq_true_eq]; omega), Option.bind_some]
    by_cases h0 : l.length < 2
    · rw [if_t (by rw [decide_eq_true_eq]; omega), bind_some' awake16]
    · have hl : l.length ≤ 2147483647 := by omega
      rw [if_f (by rw [decide_eq_true_eq]; omega), if_t (by omega), Option.bind_some]
      have em : Int.tmod (m.toNat : Int) (l.length : Int) = ((m.toNat % l.length : Nat) : Int) := (Int.ofNat_tmod _ _).symm
      have hm : m.toNat % l.length < l.length := Nat.mod_lt _ (by omega)
      rw [em]
      clear em
      generalize m.toNat % l.length = i at hm ⊢
      have he : entS l i = ((hsh 0 (l.take i), hsh (i + 1) (l.drop (i + 1))), 0) := by
        unfold entS
        rw [if_pos (by omega)]; rfl
      have e1 : (l.take i).length = i := by rw [List.length_take]; omega
      have e2 : (l.drop (i + 1)).length = l.length - (i + 1) := by rw [List.length_drop]
      have la := hsh_le 0 (l.take i)
      have lb := hsh_le (i + 1) (l.drop (i + 1))
      have sa := hsh_len 0 (l.take i)
      have sb := hsh_len (i + 1) (l.drop (i + 1))
      rw [show 0 + (l.take i).length = i by omega] at sa
      rw [show i + 1 + (l.drop (i + 1)).length = l.length by omega] at sb
      rw [bind_some' (rlist_eq l (by omega)), bind_some' (entry_eq l i hl), he]
      simp only []
      generalize hsh 0 (l.take i) = A at la sa ⊢
      generalize hsh (i + 1) (l.drop (i + 1)) = B at lb sb ⊢
      clear he
      have q1 : A.length ≤ 50 := by omega
      have q2 : B.length ≤ 50 := by omega
      have n1 : ∀ r, isE (A ++ [x], B) i l.length l[i] r = false := fun r => isE_no (fun h => by
        have := formed_len (a := 0) (e := i) (l := A ++ [x]) h.1
        rw [List.length_append] at this
        simp at this; omega)
      have n2 : ∀ r, isE (A, B ++ [x]) i l.length l[i] r = false := fun r => isE_no (fun h => by
        have := formed_len (a := i + 1) (e := l.length) (l := B ++ [x]) h.2
        rw [List.length_append] at this
        simp at this; omega)
      have n3 : ∀ r, isE (A, B) l.length l.length l[i] r = false := fun r => by
        unfold isE; rw [decide_eq_false]; rintro ⟨_, h, _⟩; omega
      have n4 : ∀ r, isE (A, B) (-1) l.length l[i] r = false := fun r => by
        unfold isE; rw [decide_eq_false]; rintro ⟨h, _⟩; omega
      have n5 : ∀ r, isG (A, B) ((l.length + 1 : Nat) : Int) l.length r r = false := fun r => by
        unfold isG; rw [decide_eq_false]; rintro ⟨_, h, _⟩; omega
      have n6 : A.length ≠ B.length → ∀ r, isE (B, A) i l.length l[i] r = false := fun hn r => isE_no (fun h => by
        have := formed_len (a := 0) (e := i) (l := B) h.1
        omega)
      have w1 : w64 ((l.length : Int) + 1) = ((l.length + 1 : Nat) : Int) := w64_p1 _ (by omega)
      have g := lget_at (l := l) (i := (i : Int)) rfl hm
      rw [if_t (ap_ok (by simp; omega)), if_t (ap_ok (by simp; omega)), Option.bind_some, if_t (ap_ok (by simp; omega)), if_t (ap_ok (by simp; omega)), Option.bind_some, Option.bind_some, Option.bind_some, bind_some' g]
      simp only [List.nil_append]
      rw [bind_some' (isE_eq _ _ _ _ _), n1, if_t (by rfl), bind_some' g, bind_some' (isE_eq _ _ _ _ _), n2, Option.bind_some, if_t (by rfl), bind_some' g, bind_some' (isE_eq _ _ _ _ _), n3, Option.bind_some, if_t (by rfl), bind_some' g, bind_some' (isE_eq _ _ _ _ _), n4, Option.bind_some, if_t (by rfl), w1, bind_some' (isG_eq _ _ _ _ _ (by show A.length ≤ _; omega)), n5, Option.bind_some, if_t (by rfl)]
      by_cases hn : A.length = B.length
      · rw [if_t (by rw [decide_eq_true_eq]; omega), Option.bind_some, Option.bind_some]
      · rw [if_f (by rw [decide_eq_true_eq]; omega), bind_some' g, bind_some' (isE_eq _ _ _ _ _), n6 hn, Option.bind_some, Option.bind_some]
        rfl
end Go.Sl.Pu
