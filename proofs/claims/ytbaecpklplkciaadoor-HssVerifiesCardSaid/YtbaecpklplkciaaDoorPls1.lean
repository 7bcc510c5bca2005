import Derived.Test.YtbaecpklplkciaaDoorPlm4
set_option linter.unusedSimpArgs false
set_option linter.unusedVariables false
set_option maxRecDepth 20000
/-! Trees of keys: nodes, the tree, its public key, signatures. -/
namespace Go.Sl.Pu
open Go.Sl Go.Sl.M
attribute [local irreducible] sha w64 pubk und sigk
def IsH (h : Nat) : Prop := h = 1 ∨ h = 2 ∨ h = 3 ∨ h = 4
def KK (h : Nat) : Nat := 2 ^ h
theorem KK_le {h : Nat} (hh : IsH h) : 2 ≤ KK h ∧ KK h ≤ 16 := by rcases hh with rfl | rfl | rfl | rfl <;> decide
theorem ishl_KK {h : Nat} (hh : IsH h) : ishl (1 : Int) (h : Int) = (KK h : Int) := by rcases hh with rfl | rfl | rfl | rfl <;> with_unfolding_all rfl
theorem isH_le {h : Nat} (hh : IsH h) : 1 ≤ h ∧ h ≤ 4 := by unfold IsH at hh; omega
theorem chainsN_pos {k : Nat} (hk : IsKind k) : 0 < chainsN k := by rcases hk with rfl | rfl | rfl | rfl <;> decide
theorem lmay_eq {h k : Nat} (hh : IsH h) (hk : IsKind k) : lms_may (h : Int) (k : Int) = some true := by
  unfold lms_may
  have h1 := isH_le hh
  have h2 := chainsN_pos hk
  rw [if_t (by rw [decide_eq_true_eq]; omega), Option.bind_some, if_t (by rw [decide_eq_true_eq]; omega), bind_some' (chains_eq hk), Option.bind_some, decide_eq_true (by omega)]
theorem lmay_no {h k : Int} (hn : ¬ ((1 ≤ h ∧ h ≤ 4) ∧ (1 ≤ k ∧ k ≤ 4))) : lms_may h k = some false := by
  unfold lms_may
  by_cases h1 : 1 ≤ h
  · by_cases h2 : h ≤ 4
    · have hk : ¬ (1 ≤ k ∧ k ≤ 4) := fun hk => hn ⟨⟨h1, h2⟩, hk⟩
      rw [if_t (decide_eq_true h1), Option.bind_some, if_t (decide_eq_true h2), bind_some' (chains_none hk)]
      rfl
    · rw [if_t (decide_eq_true h1), Option.bind_some, if_f (by rw [decide_eq_true_eq]; exact h2)]
      rfl
  · rw [if_f (by rw [decide_eq_true_eq]; exact h1), Option.bind_some, if_f (by decide)]
    rfl
/-! ## Nodes -/
def ndh (id : T_api_ID) (r u : Nat) (b : List (BitVec 8)) : T_api_Hash := sha (((id.toList ++ be (BitVec.ofNat 32 r) 4) ++ be (BitVec.ofNat 16 u) 2) ++ b)
theorem wU16_eq (b : List (BitVec 8)) (hb : b.length ≤ 4000000000) (u : Nat) (hu : u ≤ 65535) : wire_Writer_U16 (b, false) (u : Int) = some (b ++ be (BitVec.ofNat 16 u) 2, false) := by
  unfold wire_Writer_U16 wire_Writer_within
  simp only []
  rw [if_f (by rw [decide_eq_true_eq]; omega), Option.bind_some, if_f (by rw [decide_eq_true_eq]; omega), Option.bind_some, if_t (by rfl), ofInt64]
  have h : wire_Writer_number (b, false) (BitVec.ofNat 64 u) (2 : Int) = _ := wnumber_eq b hb (BitVec.ofNat 64 u) 2 (by omega)
  simp only [Bool.not_false]
  rw [bind_some' h, be64_16]
theorem lnode_eq (id : T_api_ID) (r u : Nat) (parts : List (List (BitVec 8))) (hu : u ≤ 65535) (hp : tot parts ≤ 1000000) (hl : parts.length ≤ 1000000) : lms_node id (r : Int) (u : Int) parts = some (ndh id r u parts.flatten) := by
  unfold lms_node
  rw [bind_some' (wPlain_eq [] id.toList (by simp))]
  simp only [List.nil_append]
  rw [ofInt32, bind_some' (wU32_eq id.toList (by simp) (BitVec.ofNat 32 r)), bind_some' (wU16_eq _ (by simp [be_len]) u hu)]
  have h := loopS_cnt (f := fun (s : Int × Bool × (List (BitVec 8))) => lms_node_L1 parts s.1 s.2.1 s.2.2) (fun j (_ : Unit) => ((j : Int), false, ((id.toList ++ be (BitVec.ofNat 32 r) 4) ++ be (BitVec.ofNat 16 u) 2) ++ (parts.take j).flatten)) (fun _ s => s) 0 parts.length (fun j s h1 h2 => by
    simp only [lms_node_L1]
    have h3 := take_tot parts (j + 1)
    rw [List.take_succ_eq_append_getElem h2, List.flatten_append, List.length_append] at h3
    rw [if_t (by rw [decide_eq_true_eq]; omega), bind_some' (lget_at rfl h2), bind_some' (wPlain_eq _ _ (by simp [be_len] at h3 ⊢; omega)), w64_id (n := (j : Int) + 1) (by omega) (by omega), List.take_succ_eq_append_getElem h2, List.flatten_append]
    simp) (fun s => by
    simp only [lms_node_L1]
    rw [if_f (by rw [decide_eq_true_eq]; omega)]) FU () (by omega) (fu_lt (by omega))
  have h' : loopS (fun (s : Int × Bool × (List (BitVec 8))) => lms_node_L1 parts s.1 s.2.1 s.2.2) FU ((0 : Int), false, (id.toList ++ be (BitVec.ofNat 32 r) 4) ++ be (BitVec.ofNat 16 u) 2) = some ((parts.length : Int), false, ((id.toList ++ be (BitVec.ofNat 32 r) 4) ++ be (BitVec.ofNat 16 u) 2) ++ parts.flatten) := by
    have e : ((id.toList ++ be (BitVec.ofNat 32 r) 4) ++ be (BitVec.ofNat 16 u) 2) ++ (parts.take 0).flatten = (id.toList ++ be (BitVec.ofNat 32 r) 4) ++ be (BitVec.ofNat 16 u) 2 := by simp
    rw [e, List.take_length] at h
    exact h
  have h3 := take_tot parts parts.length
  rw [List.take_length] at h3
  rw [bind_some' h', bind_some' (wOut_eq _ (by simp [be_len] at h3 ⊢; omega)), bind_some' (sum_eq _ (by simp [be_len] at h3 ⊢; omega))]
  unfold ndh; rfl
theorem lleaf_eq (id : T_api_ID) (r : Nat) (p : T_api_Hash) : lms_leaf id (r : Int) p = some (ndh id r 33410 p.toList) := by
  unfold lms_leaf
  have h : lms_node id (r : Int) (33410 : Int) [p.toList] = _ := lnode_eq id r 33410 [p.toList] (by omega) (by simp [tot]) (by simp)
  rw [bind_some' h]; simp
theorem linner_eq (id : T_api_ID) (r : Nat) (a b : T_api_Hash) : lms_inner id (r : Int) a b = some (ndh id r 33667 (a.toList ++ b.toList)) := by
  unfold lms_inner
  have h : lms_node id (r : Int) (33667 : Int) [a.toList, b.toList] = _ := lnode_eq id r 33667 [a.toList, b.toList] (by omega) (by simp [tot]) (by simp)
  rw [bind_some' h]; simp
theorem rNode5_eq (id : T_api_ID) (r u : Nat) (b : List (BitVec 8)) (hb : b.length ≤ 1000000) : rolodexref05_Node id (r : Int) (u : Int) b = some (ndh id r u b) := by
  unfold rolodexref05_Node
  have n2 : rolodexref01_Number (BitVec.ofInt 64 (u : Int)) (2 : Int) = some (be (BitVec.ofNat 16 u) 2) := by
    rw [ofInt64, ← be64_16]; exact number_eq _ 2 (by omega)
  rw [if_t (by simp [AP]), bind_some' (rNum4 r), if_t (by simp [AP, be_len]), bind_some' n2, if_t (by simp [AP, be_len]), if_t (by simp [AP, be_len]; omega), bind_some' (sumr_eq _ (by simp [be_len]; omega))]
  unfold ndh
  simp
theorem two_eq (a b : T_api_Hash) : rolodexref05_two a b = some (a.toList ++ b.toList) := by
  unfold rolodexref05_two
  rw [if_t (by simp [AP]), if_t (by simp [AP])]; simp
/-! ## The tree -/
section
variable (k : Nat) (id : T_api_ID) (seed : T_api_Hash) (K : Nat)
def lfv (r : Nat) : T_api_Hash := ndh id r 33410 (pubk k id (BitVec.ofNat 32 (r - K)) seed).toList
/-- A node's hash. -/
def tv (r : Nat) : T_api_Hash :=
  if h : r < K ∧ 0 < r then ndh id r 33667 ((tv (2 * r)).toList ++ (tv (2 * r + 1)).toList) else lfv k id seed K r
termination_by K - r
decreasing_by
  · omega
  · omega
theorem tv_leaf {r : Nat} (h : K ≤ r) : tv k id seed K r = lfv k id seed K r := by rw [tv, dif_neg (by omega)]
theorem tv_inner {r : Nat} (h : r < K) (h0 : 0 < r) : tv k id seed K r = ndh id r 33667 ((tv k id seed K (2 * r)).toList ++ (tv k id seed K (2 * r + 1)).toList) := by
  conv => lhs; rw [tv]
  rw [dif_pos ⟨h, h0⟩]
end
def nilH : T_api_Hash := Vector.replicate 32 (0#8)
theorem set_map {α : Type} (n i : Nat) (f : Nat → α) (x : α) : ((List.range n).map f).set i x = (List.range n).map (fun r => if r = i then x else f r) := by
  apply List.ext_getElem
  · simp
  · intro j h1 h2
    simp only [List.length_map, List.length_range, List.length_set] at h1 h2
    rw [List.getElem_set]
    by_cases h : i = j
    · simp [h]
    · rw [if_neg h]; simp; intro hc; exact absurd hc.symm h
def nodesS (k : Nat) (id : T_api_ID) (seed : T_api_Hash) (K : Nat) : List T_api_Hash := (List.range (2 * K)).map fun r => if r = 0 then nilH else tv k id seed K r
theorem nodesS_get {k : Nat} {id : T_api_ID} {seed : T_api_Hash} {K r : Nat} (h0 : 0 < r) (h : r < 2 * K) : lget (nodesS k id seed K) (r : Int) = some (tv k id seed K r) := by
  unfold nodesS
  rw [lget_at rfl (by simp; exact h), List.getElem_map, List.getElem_range, if_neg (by omega)]
theorem lnew_eq {h k : Nat} (hh : IsH h) (hk : IsKind k) (id : T_api_ID) (seed : T_api_Hash) : lms_New (h : Int) (k : Int) id seed = some (some ((h : Int), (k : Int), id, seed, nodesS k id seed (KK h)), 0) := by
  unfold lms_New
  obtain ⟨hK1, hK2⟩ := KK_le hh
  have hhl := isH_le hh
  rw [bind_some' (lmay_eq hh hk), if_f (by decide), if_t (by omega), ishl_KK hh]
  have hsh := ishl_KK hh
  generalize KK h = K at hK1 hK2 hsh ⊢
  have w2 : w64 ((2 : Int) * (K : Int)) = ((2 * K : Nat) : Int) := by rw [w64_id (by omega) (by omega)]; omega
  have w3 : w64 ((K : Int) - 1) = ((K - 1 : Nat) : Int) := by rw [w64_id (by omega) (by omega)]; omega
  rw [w2, w3, if_t (by clear w2 w3 hsh; omega), Option.bind_some, Int.toNat_natCast]
  clear w2 w3
  have h0 : List.replicate (2 * K) (Vector.replicate 32 (0#8)) = (List.range (2 * K)).map (fun r => if K ≤ r ∧ r < K + 0 then tv k id seed K r else nilH) := by
    apply List.ext_getElem
    · simp
    · intro j h1 h2
      simp; rw [if_neg (by omega)]; rfl
  obtain ⟨o, ho, hq⟩ := loopO_inv (f := fun (s : Int × (List T_api_Hash)) => lms_New_L1 (h : Int) (k : Int) id seed s.1 s.2) (fun s => ∃ q, q ≤ K ∧ s = ((q : Int), (List.range (2 * K)).map (fun r => if K ≤ r ∧ r < K + q then tv k id seed K r else nilH))) (fun s => K - s.1.toNat) (fun o => o = .inl ((K : Int), (List.range (2 * K)).map (fun r => if K ≤ r ∧ r < K + K then tv k id seed K r else nilH))) (by
    rintro s ⟨q, hq, rfl⟩
    by_cases hl : q < K
    · refine .inl ⟨(((q + 1 : Nat) : Int), (List.range (2 * K)).map (fun r => if K ≤ r ∧ r < K + (q + 1) then tv k id seed K r else nilH)), ?_, ⟨q + 1, by omega, rfl⟩, ?_⟩
      · simp only [lms_New_L1, hsh]
        have w4 : w64 ((K : Int) + (q : Int)) = ((K + q : Nat) : Int) := by rw [w64_id (by omega) (by omega)]; omega
        have w5 : w64 ((q : Int) + 1) = ((q + 1 : Nat) : Int) := by rw [w64_id (by omega) (by omega)]; omega
        rw [if_t (by clear w4 w5 hsh; rw [decide_eq_true_eq]; omega), ofInt32, bind_some' (public_eq hk id _ seed), if_f (by simp), w4, w5, bind_some' (lleaf_eq id (K + q) _), if_t (by clear w4 w5 hsh; simp; omega), Int.toNat_natCast, set_map]
        refine congrArg some (congrArg LR.next (Prod.ext rfl ?_))
        apply List.map_congr_left
        intro r hr
        by_cases e : r = K + q
        · subst e
          rw [if_pos rfl, if_pos (by clear w4 w5 hsh; omega), tv_leaf _ _ _ _ (by clear w4 w5 hsh; omega)]
          unfold lfv
          rw [Nat.add_sub_cancel_left]
        · rw [if_neg e]
          by_cases e2 : K ≤ r ∧ r < K + q
          · rw [if_pos e2, if_pos (by clear w4 w5 hsh; omega)]
          · rw [if_neg e2, if_neg (by clear w4 w5 hsh; omega)]
      · simp only [Int.toNat_natCast]; clear hsh; omega
    · have : q = K := by clear hsh; omega
      subst this
      exact .inr (.inl ⟨_, by
        simp only [lms_New_L1, hsh]
        rw [if_f (by clear hsh; rw [decide_eq_true_eq]; omega)], rfl⟩)) FU ((0 : Int), (List.range (2 * K)).map (fun r => if K ≤ r ∧ r < K + 0 then tv k id seed K r else nilH)) ⟨0, Nat.zero_le _, rfl⟩ (by
      have := fu_lt (n := K) (by clear hsh; omega)
      clear hsh
      simp only []; omega)
  rw [h0, bind_some' ho, hq]
  simp only []
  have h1 : (List.range (2 * K)).map (fun r => if K ≤ r ∧ r < K + K then tv k id seed K r else nilH) = (List.range (2 * K)).map (fun r => if K - 1 < r then tv k id seed K r else nilH) := by
    apply List.map_congr_left
    intro r hr
    have := List.mem_range.1 hr
    by_cases e : K ≤ r
    · rw [if_pos (by clear hsh; omega), if_pos (by clear hsh; omega)]
    · rw [if_neg (by clear hsh; omega), if_neg (by clear hsh; omega)]
  obtain ⟨s', hs', hq'⟩ := loopS_inv (f := fun (s : Int × (List T_api_Hash)) => lms_New_L2 id s.1 s.2) (fun s => ∃ y, y < K ∧ s = ((y : Int), (List.range (2 * K)).map (fun r => if y < r then tv k id seed K r else nilH))) (fun s => s.1.toNat) (fun s => s = ((0 : Int), (List.range (2 * K)).map (fun r => if 0 < r then tv k id seed K r else nilH))) (by
    rintro s ⟨y, hy, rfl⟩
    by_cases hl : 0 < y
    · obtain ⟨y, rfl⟩ : ∃ m, y = m + 1 := ⟨y - 1, by clear hsh; omega⟩
      refine .inl ⟨((y : Int), (List.range (2 * K)).map (fun r => if y < r then tv k id seed K r else nilH)), ?_, ⟨y, by clear hsh; omega, rfl⟩, ?_⟩
      · simp only [lms_New_L2]
        have g1 : lget ((List.range (2 * K)).map (fun r => if y + 1 < r then tv k id seed K r else nilH)) ((2 * (y + 1) : Nat) : Int) = some (tv k id seed K (2 * (y + 1))) := by
          rw [lget_at rfl (by simp; clear hsh; omega)]
          rw [List.getElem_map, List.getElem_range, if_pos (by clear hsh; omega)]
        have g2 : lget ((List.range (2 * K)).map (fun r => if y + 1 < r then tv k id seed K r else nilH)) ((2 * (y + 1) + 1 : Nat) : Int) = some (tv k id seed K (2 * (y + 1) + 1)) := by
          rw [lget_at rfl (by simp; clear hsh; omega)]
          rw [List.getElem_map, List.getElem_range, if_pos (by clear hsh; omega)]
        have w4 : w64 ((2 : Int) * ((y + 1 : Nat) : Int)) = ((2 * (y + 1) : Nat) : Int) := by rw [w64_id (by clear hsh; omega) (by clear hsh; omega)]; rfl
        have w5 : w64 (((2 * (y + 1) : Nat) : Int) + 1) = ((2 * (y + 1) + 1 : Nat) : Int) := by rw [w64_id (by clear w4 hsh; omega) (by clear w4 hsh; omega)]; rfl
        have w6 : w64 (((y + 1 : Nat) : Int) - 1) = (y : Int) := by rw [w64_id (by clear w4 w5 hsh; omega) (by clear w4 w5 hsh; omega)]; clear w4 w5 hsh; omega
        rw [if_t (by clear w4 w5 w6 hsh; simp), w4, w5, w6, bind_some' g1, bind_some' g2, bind_some' (linner_eq id (y + 1) _ _), if_t (by clear w4 w5 w6 hsh; simp; omega), Int.toNat_natCast, set_map]
        clear w4 w5 w6 g1 g2
        refine congrArg some (congrArg LR.next (Prod.ext rfl ?_))
        apply List.map_congr_left
        intro r hr
        by_cases e : r = y + 1
        · subst e
          rw [if_pos rfl, if_pos (by clear hsh; omega), tv_inner k id seed K hy (by clear hsh; omega)]
        · rw [if_neg e]
          by_cases e2 : y + 1 < r
          · rw [if_pos e2, if_pos (by clear hsh; omega)]
          · rw [if_neg e2, if_neg (by clear hsh; omega)]
      · simp only [Int.toNat_natCast]; clear hsh; omega
    · have : y = 0 := by clear hsh; omega
      subst this
      exact .inr ⟨_, by
        simp only [lms_New_L2]
        rw [if_f (by simp)]; rfl, rfl⟩) FU (((K - 1 : Nat) : Int), (List.range (2 * K)).map (fun r => if K - 1 < r then tv k id seed K r else nilH)) ⟨K - 1, by clear hsh; omega, rfl⟩ (by
      simp only [Int.toNat_natCast]
      exact fu_lt (by clear hsh; omega))
  rw [h1, Option.bind_some, bind_some' hs', hq']
  refine congrArg some (Prod.ext (congrArg some ?_) rfl)
  refine congrArg (fun v => ((h : Int), (k : Int), id, seed, v)) ?_
  unfold nodesS
  apply List.map_congr_left
  intro r hr
  by_cases e : r = 0
  · rw [if_neg (by clear hsh; omega), if_pos e]
  · rw [if_pos (by clear hsh; omega), if_neg e]
/-- A tree. -/
abbrev trS (h k : Nat) (id : T_api_ID) (seed : T_api_Hash) : Option T_lms_Tree := some ((h : Int), (k : Int), id, seed, nodesS k id seed (KK h))
theorem lkeys_eq {h k : Nat} (hh : IsH h) (id : T_api_ID) (seed : T_api_Hash) : lms_Tree_Keys (trS h k id seed) = some (KK h : Int) := by
  unfold lms_Tree_Keys
  rw [if_f (by simp), Option.bind_some, if_t (by simp), ishl_KK hh]
def pubT (h k : Nat) (id : T_api_ID) (seed : T_api_Hash) : List (BitVec 8) := ((be (BitVec.ofNat 32 h) 4 ++ be (BitVec.ofNat 32 k) 4) ++ id.toList) ++ (tv k id seed (KK h) 1).toList
theorem pubT_len (h k : Nat) (id : T_api_ID) (seed : T_api_Hash) : (pubT h k id seed).length = 56 := by simp [pubT, be_len]
theorem lpublic_eq {h k : Nat} (hh : IsH h) (id : T_api_ID) (seed : T_api_Hash) : lms_Tree_Public (trS h k id seed) = some (pubT h k id seed) := by
  unfold lms_Tree_Public
  obtain ⟨hK1, hK2⟩ := KK_le hh
  have g : lget (nodesS k id seed (KK h)) (1 : Int) = some (tv k id seed (KK h) 1) := nodesS_get (r := 1) (by omega) (by omega)
  rw [if_f (by simp)]
  simp only [trS, Option.bind_some]
  rw [ofInt32, ofInt32, bind_some' (wU32_eq [] (by simp) _), bind_some' (wU32_eq _ (by simp [be_len]) _), bind_some' (wPlain_eq _ _ (by simp [be_len])), bind_some' g, bind_some' (wPlain_eq _ _ (by simp [be_len])), bind_some' (wOut_eq _ (by simp [be_len]))]
  rfl
theorem rkeys_eq {h k : Nat} (hh : IsH h) (hk : IsKind k) : rolodexref05_Keys (h : Int) (k : Int) = some (KK h : Int) := by
  unfold rolodexref05_Keys
  have h1 := isH_le hh
  have hb : bitsN k ≠ 0 := by rcases hk with rfl | rfl | rfl | rfl <;> decide
  rw [if_f (by rw [decide_eq_true_eq]; omega), Option.bind_some, if_f (by rw [decide_eq_true_eq]; omega), bind_some' (rbits_eq hk), Option.bind_some, if_f (by rw [decide_eq_true_eq]; omega)]
  have h2 := loopS_cnt (f := fun (s : Int × Int) => rolodexref05_Keys_L1 (h : Int) s.1 s.2) (fun j (_ : Unit) => (((2 ^ j : Nat) : Int), (j : Int))) (fun _ s => s) 0 h (fun j s h2 h3 => by
    simp only [rolodexref05_Keys_L1]
    have hj : 2 ^ j ≤ 2 ^ 4 := Nat.pow_le_pow_right (by omega) (by omega)
    have hj2 : 2 ^ (j + 1) = 2 ^ j * 2 := Nat.pow_succ ..
    have hj3 : 0 < 2 ^ j := Nat.pow_pos (by omega)
    generalize 2 ^ (j + 1) = a at hj2 ⊢
    generalize 2 ^ j = b at hj hj2 hj3 ⊢
    rw [if_t (by rw [decide_eq_true_eq]; omega), w64_id (n := 2 * (b : Int)) (by omega) (by omega), w64_id (n := (j : Int) + 1) (by omega) (by omega)]
    refine congrArg some (congrArg LR.next (Prod.ext ?_ rfl))
    simp only []; omega) (fun s => by
    simp only [rolodexref05_Keys_L1]
    rw [if_f (by rw [decide_eq_true_eq]; omega)]) FU () (by omega) (fu_lt (by omega))
  have h2' : loopS (fun (s : Int × Int) => rolodexref05_Keys_L1 (h : Int) s.1 s.2) FU ((1 : Int), (0 : Int)) = some (((2 ^ h : Nat) : Int), (h : Int)) := h2
  rw [bind_some' h2']; rfl
theorem rkeys_no {h k : Int} (hn : ¬ ((1 ≤ h ∧ h ≤ 4) ∧ (1 ≤ k ∧ k ≤ 4))) : rolodexref05_Keys h k = some 0 := by
  unfold rolodexref05_Keys
  by_cases h1 : h < 1
  · rw [if_t (decide_eq_true h1), Option.bind_some, if_t rfl, Option.bind_some, if_t rfl]
  · rw [if_f (by rw [decide_eq_true_eq]; exact h1), Option.bind_some]
    by_cases h2 : 4 < h
    · rw [if_t (decide_eq_true h2), Option.bind_some, if_t rfl]
    · rw [if_f (by rw [decide_eq_true_eq]; exact h2), bind_some' (rbits_none (fun hk => hn ⟨by omega, hk⟩)), Option.bind_some, if_t (by rfl)]
theorem lsize_eq {h k : Nat} (hh : IsH h) (hk : IsKind k) : lms_Size (h : Int) (k : Int) = some ((8 + sizeN k + 32 * h : Nat) : Int) := by
  unfold lms_Size
  have h1 := isH_le hh
  have h2 : sizeN k ≤ 100000 := by have := chainsN_le hk; unfold sizeN; omega
  rw [bind_some' (lmay_eq hh hk), if_f (by decide), bind_some' (size_eq hk), Option.bind_some, w64_id (n := 8 + (sizeN k : Int)) (by omega) (by omega), w64_id (n := 32 * (h : Int)) (by omega) (by omega), w64_id (by omega) (by omega)]
  refine congrArg some ?_
  omega
theorem lsize_no {h k : Int} (hn : ¬ ((1 ≤ h ∧ h ≤ 4) ∧ (1 ≤ k ∧ k ≤ 4))) : lms_Size h k = some 0 := by
  unfold lms_Size
  rw [bind_some' (lmay_no hn), if_t (by rfl)]
theorem rsizeT_eq {h k : Nat} (hh : IsH h) (hk : IsKind k) : rolodexref05_Size (h : Int) (k : Int) = some ((8 + sizeN k + 32 * h : Nat) : Int) := by
  unfold rolodexref05_Size
  have h1 := isH_le hh
  have h2 : sizeN k ≤ 100000 := by have := chainsN_le hk; unfold sizeN; omega
  obtain ⟨hK1, hK2⟩ := KK_le hh
  rw [bind_some' (rkeys_eq hh hk), if_f (by rw [decide_eq_true_eq]; omega), bind_some' (rsize_eq hk), Option.bind_some, w64_id (n := 4 + (sizeN k : Int)) (by omega) (by omega), w64_id (n := 4 + (sizeN k : Int) + 4) (by omega) (by omega), w64_id (n := 32 * (h : Int)) (by omega) (by omega), w64_id (by omega) (by omega)]
  refine congrArg some ?_
  omega
theorem rsizeT_no {h k : Int} (hn : ¬ ((1 ≤ h ∧ h ≤ 4) ∧ (1 ≤ k ∧ k ≤ 4))) : rolodexref05_Size h k = some 0 := by
  unfold rolodexref05_Size
  rw [bind_some' (rkeys_no hn), if_t (by rfl)]
/-! ## Signing -/
def sib (r : Nat) : Nat := r + 1 - 2 * (r % 2)
def pth (f : Nat → T_api_Hash) (r : Nat) : List T_api_Hash := if h : 1 < r then f (sib r) :: pth f (r / 2) else []
termination_by r
decreasing_by omega
def catH (l : List T_api_Hash) : List (BitVec 8) := l.flatMap fun x => x.toList
def sigT (h k : Nat) (id : T_api_ID) (seed : T_api_Hash) (q : Nat) (msg : List (BitVec 8)) : List (BitVec 8) :=
  ((be (BitVec.ofNat 32 q) 4 ++ sigk k id (BitVec.ofNat 32 q) seed msg) ++ be (BitVec.ofNat 32 h) 4) ++ catH (pth (tv k id seed (KK h)) (KK h + q))
end Go.Sl.Pu
