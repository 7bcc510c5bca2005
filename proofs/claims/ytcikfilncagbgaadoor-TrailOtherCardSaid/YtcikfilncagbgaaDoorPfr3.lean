import Derived.Test.YtcikfilncagbgaaDoorPfr2
import Derived.Test.YtcikfilncagbgaaDoorPl
set_option linter.unusedSimpArgs false
set_option linter.unusedVariables false
set_option maxRecDepth 20000
/-! The frontier: segments, nodes, the stack, ranges of leaves. -/
namespace Go.Sl.Pu
open Go.Sl Go.Sl.M Go.Sl.Fr
/-- The exponents from `a` to `e`. -/
noncomputable def segs (a e : Nat) : List Nat := if h : a ≤ e then Classical.choose (seg_exists (e - a) a e h (Nat.le_refl _)) else []
theorem segs_spec {a e : Nat} (h : a ≤ e) : Seg a e (segs a e) := by
  unfold segs; rw [dif_pos h]; exact Classical.choose_spec (seg_exists (e - a) a e h (Nat.le_refl _))
theorem segs_uniq {a e : Nat} {ks : List Nat} (h : a ≤ e) (hk : Seg a e ks) : segs a e = ks := seg_uniq _ _ _ _ (segs_spec h) hk
theorem may_eq (a e : Int) : frontier_may a e = some (decide (0 ≤ a ∧ a ≤ e ∧ e ≤ 2147483647)) := by
  unfold frontier_may
  by_cases h1 : 0 ≤ a <;> by_cases h2 : a ≤ e <;> by_cases h3 : e ≤ 2147483647 <;> simp [h1, h2, h3]
theorem rmay_eq (a e : Int) : rolodexref15_May a e = some (decide (0 ≤ a ∧ a ≤ e ∧ e ≤ 2147483647)) := by
  unfold rolodexref15_May
  by_cases h1 : 0 ≤ a <;> by_cases h2 : a ≤ e <;> by_cases h3 : e ≤ 2147483647 <;> simp [h1, h2, h3]
theorem ap_ok {n : Nat} (h : n ≤ 4294967296) : n ≤ AP := h
theorem p2_pos (k : Nat) : 0 < p2 k := by have := two_pos k; unfold p2; omega
theorem segloop {f : Int × List Int → Option (LR (Int × List Int) Empty)} {g : Int → Int → Option Int} {e : Nat} (hg : ∀ a k : Nat, a < e → IsSz a (e - a) k → g (a : Int) (e : Int) = some (p2 k)) (he : e ≤ 2147483647)
    (hf : ∀ y1 y2, f (y1, y2) = if (decide (y1 < (e : Int))) = true then (Option.bind (g y1 (e : Int)) fun r2 => if y2.length + ([r2]).length ≤ AP then (some (.next (w64 (y1 + r2), (y2 ++ ([r2]))))) else none) else some (.brk (y1, y2))) :
    ∀ (ks : List Nat) (a : Nat) (acc : List Int) (fuel : Nat), Seg a e ks → acc.length ≤ a → ks.length < fuel → loopS f fuel ((a : Int), acc) = some ((e : Int), acc ++ ks.map p2) := by
  intro ks
  induction ks with
  | nil =>
    intro a acc fuel h ha hfu
    obtain ⟨fuel, rfl⟩ : ∃ m, fuel = m + 1 := ⟨fuel - 1, by omega⟩
    have h : a = e := h
    subst h
    rw [loopS_brk (by rw [hf, if_f (by simp)])]; simp
  | cons k ks ih =>
    intro a acc fuel h ha hfu
    obtain ⟨fuel, rfl⟩ : ∃ m, fuel = m + 1 := ⟨fuel - 1, by omega⟩
    simp only [List.length_cons] at hfu
    have hk := h.2.1.1
    have hlt := h.1
    have hp := two_pos k
    rw [loopS_next (s' := (((a + 2 ^ k : Nat) : Int), acc ++ [p2 k])) (by
      rw [hf, if_t (by rw [decide_eq_true_eq]; omega), bind_some' (hg a k hlt h.2.1), if_t (ap_ok (by simp; omega))]
      refine congrArg some (congrArg LR.next (Prod.ext ?_ rfl))
      show w64 ((a : Int) + p2 k) = _
      unfold p2
      rw [w64_id (by omega) (by omega)]; omega), ih (a + 2 ^ k) (acc ++ [p2 k]) fuel h.2.2 (by simp; omega) (by omega)]
    simp
theorem segments_eq (a e : Nat) (h : a ≤ e) (he : e ≤ 2147483647) : frontier_Segments (a : Int) (e : Int) = some ((segs a e).map p2) := by
  unfold frontier_Segments
  rw [bind_some' (may_eq _ _), if_f (by simp; omega)]
  have hs := segs_spec h
  have h1 := segloop (f := fun (s : Int × (List Int)) => frontier_Segments_L1 (e : Int) s.1 s.2) (g := frontier_segment) (fun a k hl hk => segment_eq a e k hl he hk) he (fun y1 y2 => rfl) (segs a e) a [] FU hs (by simp) (fu_lt (by have := seg_le _ _ _ hs; omega))
  rw [bind_some' h1]; simp
theorem rsegments_eq (a e : Nat) (h : a ≤ e) (he : e ≤ 2147483647) : rolodexref15_Segments (a : Int) (e : Int) = some ((segs a e).map p2) := by
  unfold rolodexref15_Segments
  rw [bind_some' (rmay_eq _ _), if_f (by simp; omega)]
  have hs := segs_spec h
  have h1 := segloop (f := fun (s : Int × (List Int)) => rolodexref15_Segments_L1 (e : Int) s.1 s.2) (g := rolodexref15_Size) (fun a k hl hk => size_eq a e k hl he hk) he (fun y1 y2 => rfl) (segs a e) a [] FU hs (by simp) (fu_lt (by have := seg_le _ _ _ hs; omega))
  rw [bind_some' h1]; simp
theorem segments_no {a e : Int} (h : ¬ (0 ≤ a ∧ a ≤ e ∧ e ≤ 2147483647)) : frontier_Segments a e = some [] := by
  unfold frontier_Segments
  rw [bind_some' (may_eq _ _), if_t (by rw [decide_eq_false h]; rfl)]
theorem rsegments_no {a e : Int} (h : ¬ (0 ≤ a ∧ a ≤ e ∧ e ≤ 2147483647)) : rolodexref15_Segments a e = some [] := by
  unfold rolodexref15_Segments
  rw [bind_some' (rmay_eq _ _), if_t (by rw [decide_eq_false h]; rfl)]
/-! ## Concat, Leaf, Node -/
theorem grow_eq (n : Nat) (h : n ≤ 4294967296) : slices_Grow_byte_byte_nilsl (n : Int) = some [] := by
  unfold slices_Grow_byte_byte_nilsl
  rw [if_f (by rw [decide_eq_true_eq]; omega), show w64 ((0 : Int) - 0) = 0 from rfl, w64_id (n := (n : Int) - 0) (by omega) (by omega), Option.bind_some]
  by_cases h0 : 0 < n
  · rw [if_t (by rw [decide_eq_true_eq]; omega), if_t ⟨by omega, by omega⟩, if_t ⟨by omega, by omega⟩]; simp
  · rw [if_f (by rw [decide_eq_true_eq]; omega)]
theorem concat_eq (L : List (List (BitVec 8))) (h : L.flatten.length ≤ 4000000000) (hL : L.length ≤ 1000) : slices_Concat_byte_byte L = some L.flatten := by
  unfold slices_Concat_byte_byte
  have hpre : ∀ i, i ≤ L.length → (L.take i).flatten.length ≤ 4000000000 := fun i hi => by
    have : L.flatten.length = (L.take i).flatten.length + (L.drop i).flatten.length := by
      rw [← List.length_append, ← List.flatten_append, List.take_append_drop]
    omega
  have hsucc : ∀ i (hi : i < L.length), (L.take (i + 1)).flatten = (L.take i).flatten ++ L[i] := fun i hi => by
    rw [List.take_succ_eq_append_getElem hi, List.flatten_append]; simp
  have h1 := loopS_cnt (f := fun (s : Int × Int) => slices_Concat_byte_byte_L1 L s.1 s.2) (fun i (_ : Unit) => ((((L.take i).flatten.length : Nat) : Int), (i : Int))) (fun _ s => s) 0 L.length (fun i s _ hi => by
    simp only [slices_Concat_byte_byte_L1]
    have h2 := hpre (i + 1) hi
    have h3 : (L.take (i + 1)).flatten.length = (L.take i).flatten.length + L[i].length := by rw [hsucc i hi, List.length_append]
    rw [if_t (by rw [decide_eq_true_eq]; omega), bind_some' (lget_at rfl hi), w64_id (n := (((L.take i).flatten.length : Nat) : Int) + (L[i].length : Int)) (by omega) (by omega), if_f (by rw [decide_eq_true_eq]; omega), w64_id (n := (i : Int) + 1) (by omega) (by omega), h3]
    rfl) (fun s => by
    simp only [slices_Concat_byte_byte_L1]
    rw [if_f (by rw [decide_eq_true_eq]; omega)]) FU () (by omega) (fu_lt (by omega))
  have h1' : loopS (fun (s : Int × Int) => slices_Concat_byte_byte_L1 L s.1 s.2) FU ((0 : Int), (0 : Int)) = some ((((L.take L.length).flatten.length : Nat) : Int), (L.length : Int)) := h1
  rw [bind_some' h1', bind_some' (grow_eq _ (by have := hpre L.length (Nat.le_refl _); omega))]
  have h4 := loopS_cnt (f := fun (s : Int × (List (BitVec 8))) => slices_Concat_byte_byte_L2 L s.1 s.2) (fun i (_ : Unit) => ((i : Int), (L.take i).flatten)) (fun _ s => s) 0 L.length (fun i s _ hi => by
    simp only [slices_Concat_byte_byte_L2]
    have h2 := hpre (i + 1) hi
    have h3 : (L.take (i + 1)).flatten.length = (L.take i).flatten.length + L[i].length := by rw [hsucc i hi, List.length_append]
    rw [if_t (by rw [decide_eq_true_eq]; omega), bind_some' (lget_at rfl hi), if_t (ap_ok (by omega)), w64_id (n := (i : Int) + 1) (by omega) (by omega), hsucc i hi]
    rfl) (fun s => by
    simp only [slices_Concat_byte_byte_L2]
    rw [if_f (by rw [decide_eq_true_eq]; omega)]) FU () (by omega) (fu_lt (by omega))
  have h4' : loopS (fun (s : Int × (List (BitVec 8))) => slices_Concat_byte_byte_L2 L s.1 s.2) FU ((0 : Int), ([] : List (BitVec 8))) = some ((L.length : Int), (L.take L.length).flatten) := h4
  rw [bind_some' h4', List.take_length]
/-- The text of a node; its hash; that of a leaf. -/
def txt (a b : T_api_Hash) : List (BitVec 8) := 1#8 :: (a.toList ++ b.toList)
def nd (a b : T_api_Hash) : T_api_Hash := sha (txt a b)
theorem txt_len (a b : T_api_Hash) : (txt a b).length = 65 := by simp [txt]
theorem node_eq (a b : T_api_Hash) : frontier_Node a b = some (nd a b) := by
  unfold frontier_Node
  rw [bind_some' (concat_eq _ (by simp) (by simp))]
  have : [[1#8], a.toList, b.toList].flatten = txt a b := by simp [txt]
  rw [this, bind_some' (sum_eq _ (by rw [txt_len]; omega))]; rfl
theorem rtext_eq (a b : T_api_Hash) : rolodexref15_Text a b = some (txt a b) := by
  unfold rolodexref15_Text
  rw [if_t (ap_ok (by simp)), if_t (ap_ok (by simp))]
  simp [txt]
theorem rnode_eq (a b : T_api_Hash) : rolodexref15_Node a b = some (nd a b) := by
  unfold rolodexref15_Node
  rw [bind_some' (rtext_eq a b), bind_some' (sumr_eq _ (by rw [txt_len]; omega))]; rfl
theorem leaf_eq (b : List (BitVec 8)) (hb : b.length ≤ 3999999999) : frontier_Leaf b = some (sha (0#8 :: b)) := by
  unfold frontier_Leaf
  rw [bind_some' (concat_eq _ (by simp; omega) (by simp))]
  have : [[0#8], b].flatten = 0#8 :: b := by simp
  rw [this, bind_some' (sum_eq _ (by simp; omega))]
theorem rleaf_eq (b : List (BitVec 8)) (hb : b.length ≤ 3999999999) : rolodexref15_Leaf b = some (sha (0#8 :: b)) := by
  unfold rolodexref15_Leaf
  rw [if_t (ap_ok (by simp; omega)), bind_some' (sumr_eq _ (by simp; omega))]; rfl
/-! ## The stack -/
def mp (x : P T_api_Hash) : T_frontier_part := ((x.1 : Int), p2 x.2.1, x.2.2)
def rv (st : List (P T_api_Hash)) : List T_frontier_part := st.reverse.map mp
theorem p2_inj {j k : Nat} : p2 j = p2 k ↔ j = k := by
  constructor
  · intro h
    rcases Nat.lt_trichotomy j k with hl | hl | hl
    · have : 2 ^ j < 2 ^ k := Nat.pow_lt_pow_right (by omega) hl
      unfold p2 at h; omega
    · exact hl
    · have : 2 ^ k < 2 ^ j := Nat.pow_lt_pow_right (by omega) hl
      unfold p2 at h; omega
  · intro h; rw [h]
theorem ct_len {a : Nat} {H : Type} : ∀ (st : List (P H)) (e : Nat), Ct a st e → a + st.length ≤ e
  | [], e, h => by have h : a = e := h; simp; omega
  | x :: st, e, h => by
    have := ct_len st _ h.2.2
    have h1 := h.1
    have := two_pos x.2.1
    simp only [List.length_cons]; omega
theorem rv_cons (y : P T_api_Hash) (st : List (P T_api_Hash)) : rv (y :: st) = rv st ++ [mp y] := by simp [rv]
theorem rv_len (st : List (P T_api_Hash)) : (rv st).length = st.length := by simp [rv]
theorem put_eq {a : Nat} (st : List (P T_api_Hash)) (x : P T_api_Hash) (hc : Ct a st x.1) (hx : x.1 + 2 ^ x.2.1 ≤ 2147483647) : frontier_stack_put (rv st) (mp x) = some (rv (push nd st x)) := by
  unfold frontier_stack_put
  have key : ∀ (st : List (P T_api_Hash)) (x : P T_api_Hash) (fuel : Nat), Ct a st x.1 → x.1 + 2 ^ x.2.1 ≤ 2147483647 → st.length < fuel →
      ∃ x' st', loopS (fun (s : T_frontier_part × (List T_frontier_part)) => frontier_stack_put_L1 s.1 s.2) fuel (mp x, rv st) = some (mp x', rv st') ∧ push nd st x = x' :: st' ∧ st'.length ≤ st.length := by
    intro st
    induction st with
    | nil =>
      intro x fuel hc hx hf
      obtain ⟨fuel, rfl⟩ : ∃ m, fuel = m + 1 := ⟨fuel - 1, by omega⟩
      exact ⟨x, [], by rw [loopS_brk (s' := (mp x, rv [])) (by simp [frontier_stack_put_L1, rv])], rfl, Nat.le_refl _⟩
    | cons y st ih =>
      intro x fuel hc hx hf
      obtain ⟨fuel, rfl⟩ : ∃ m, fuel = m + 1 := ⟨fuel - 1, by omega⟩
      simp only [List.length_cons] at hf
      have hlen := ct_len _ _ hc
      simp only [List.length_cons] at hlen
      have hp := two_pos x.2.1
      have hl1 : (rv (y :: st)).length = st.length + 1 := by rw [rv_len]; rfl
      have e1 : w64 (((rv (y :: st)).length : Int) - 1) = (st.length : Int) := by rw [hl1, w64_id (by omega) (by omega)]; omega
      have hg : lget (rv (y :: st)) (w64 (((rv (y :: st)).length : Int) - 1)) = some (mp y) := by
        rw [lget_at e1 (by omega)]
        refine congrArg some ?_
        simp only [rv_cons]
        rw [List.getElem_append_right (by rw [rv_len]; exact Nat.le_refl _)]
        simp [rv_len]
      have hyx : y.1 + 2 ^ y.2.1 = x.1 := hc.1
      have hps := pow_step y.2.1
      have hpy := two_pos y.2.1
      by_cases hm : y.2.1 = x.2.1 ∧ 2 ^ (y.2.1 + 1) ∣ y.1
      · have hk : 2 ^ y.2.1 = 2 ^ x.2.1 := by rw [hm.1]
        have e2 : w64 ((2 : Int) * (mp y).2.1) = ((2 ^ (y.2.1 + 1) : Nat) : Int) := by
          show w64 (2 * p2 y.2.1) = _
          unfold p2; rw [w64_id (by omega) (by omega)]; omega
        have hn : frontier_stack_put_L1 (mp x) (rv (y :: st)) = some (.next (mp (y.1, y.2.1 + 1, nd y.2.2 x.2.2), rv st)) := by
          unfold frontier_stack_put_L1
          rw [if_t (by rw [decide_eq_true_eq, hl1]; omega), bind_some' hg, e2]
          rw [if_f (by simp only [Bool.not_eq_true', decide_eq_false_iff_not, Decidable.not_not]; exact p2_inj.2 hm.1), if_t (by omega), Option.bind_some,
            if_f (by simp only [Bool.not_eq_true', decide_eq_false_iff_not, Decidable.not_not]; exact (tmod_dvd y.1 _).2 hm.2), bind_some' (node_eq _ _), Option.bind_some, e1, if_t ⟨by omega, by rw [hl1]; omega⟩]
          refine congrArg some (congrArg LR.next (Prod.ext ?_ ?_))
          · rfl
          · show List.take (st.length : Int).toNat (rv (y :: st)) = rv st
            rw [rv_cons, Int.toNat_natCast, List.take_left' (by rw [rv_len])]
        have hpu : push nd (y :: st) x = push nd st (y.1, y.2.1 + 1, nd y.2.2 x.2.2) := by
          conv => lhs; unfold push
          rw [if_pos hm]
        obtain ⟨x', st', h1, h2, h3⟩ := ih (y.1, y.2.1 + 1, nd y.2.2 x.2.2) fuel hc.2.2 (by show y.1 + 2 ^ (y.2.1 + 1) ≤ _; omega) (by omega)
        exact ⟨x', st', by rw [loopS_next hn]; exact h1, by rw [hpu]; exact h2, by simp only [List.length_cons]; omega⟩
      · have hn : frontier_stack_put_L1 (mp x) (rv (y :: st)) = some (.brk (mp x, rv (y :: st))) := by
          unfold frontier_stack_put_L1
          rw [if_t (by rw [decide_eq_true_eq, hl1]; omega), bind_some' hg]
          have e2 : w64 ((2 : Int) * (mp y).2.1) = ((2 ^ (y.2.1 + 1) : Nat) : Int) := by
            show w64 (2 * p2 y.2.1) = _
            unfold p2; rw [w64_id (by omega) (by omega)]; omega
          rw [e2]
          by_cases hk : y.2.1 = x.2.1
          · rw [if_f (by simp only [Bool.not_eq_true', decide_eq_false_iff_not, Decidable.not_not]; exact p2_inj.2 hk), if_t (by omega), Option.bind_some, if_t (by
              simp only [Bool.not_eq_true', decide_eq_false_iff_not]; exact fun h => hm ⟨hk, (tmod_dvd y.1 _).1 h⟩)]
          · rw [if_t (by simp only [Bool.not_eq_true', decide_eq_false_iff_not]; exact fun h => hk (p2_inj.1 h)), Option.bind_some, if_t rfl]
        exact ⟨x, y :: st, by rw [loopS_brk hn], by conv => lhs; unfold push
                                                    rw [if_neg hm], Nat.le_refl _⟩
  have hlen := ct_len _ _ hc
  have hpx := two_pos x.2.1
  obtain ⟨x', st', h1, h2, h3⟩ := key st x FU hc hx (fu_lt (by omega))
  rw [bind_some' h1, if_t (ap_ok (by simp [rv_len]; omega)), h2, rv_cons]
theorem hashes_eq (l : List T_frontier_part) (hl : l.length ≤ 4000000000) : frontier_stack_hashes l = some (l.map (·.2.2)) := by
  unfold frontier_stack_hashes
  have h1 := mapscan (f := fun (s : Int × (List T_api_Hash)) => frontier_stack_hashes_L1 l s.1 s.2) l (·.2.2) (by omega) (fun i hi acc ha => by
    simp only [frontier_stack_hashes_L1]
    rw [if_t (by rw [decide_eq_true_eq]; omega), bind_some' (lget_at rfl hi), if_t (ap_ok (by simp; omega)), w64_id (n := (i : Int) + 1) (by omega) (by omega)]) (fun acc => by
    simp only [frontier_stack_hashes_L1]
    rw [if_f (by rw [decide_eq_true_eq]; omega)])
  rw [bind_some' h1]
/-- The hashes of a stack, the first part first. -/
def hof (st : List (P T_api_Hash)) : List T_api_Hash := st.reverse.map (·.2.2)
theorem hashes_rv (st : List (P T_api_Hash)) (h : st.length ≤ 4000000000) : frontier_stack_hashes (rv st) = some (hof st) := by
  rw [hashes_eq _ (by rw [rv_len]; exact h)]
  simp [rv, hof, mp, Function.comp_def]
/-! ## Of -/
def leaves {H : Type} : Nat → List H → List (P H)
  | _, [] => []
  | a, h :: l => (a, 0, h) :: leaves (a + 1) l
theorem leaves_fw {H : Type} : ∀ (l : List H) (a : Nat), Fw a (leaves a l) (a + l.length)
  | [], a => rfl
  | h :: l, a => ⟨rfl, by simp, by
      have := leaves_fw l (a + 1)
      show Fw (a + 2 ^ 0) (leaves (a + 1) l) _
      rw [List.length_cons, show a + (l.length + 1) = a + 1 + l.length by omega]; exact this⟩
theorem puts_snoc {H : Type} (n : H → H → H) (st L : List (P H)) (x : P H) : puts n st (L ++ [x]) = push n (puts n st L) x := by
  simp [puts, List.foldl_append]
theorem leaves_snoc {H : Type} : ∀ (l : List H) (a : Nat) (h : H), leaves a (l ++ [h]) = leaves a l ++ [(a + l.length, 0, h)]
  | [], a, h => rfl
  | x :: l, a, h => by
    show (a, 0, x) :: leaves (a + 1) (l ++ [h]) = _
    rw [leaves_snoc l (a + 1) h, List.length_cons, show a + (l.length + 1) = a + 1 + l.length by omega]; rfl
theorem of_eq (l : List T_api_Hash) (a : Nat) (h : a + l.length ≤ 2147483647) : frontier_Of (a : Int) l = some (((a : Int), ((a + l.length : Nat) : Int), hof (puts nd [] (leaves a l))), (0 : Int)) := by
  unfold frontier_Of
  rw [if_f (by rw [decide_eq_true_eq]; omega), Option.bind_some, if_f (by rw [decide_eq_true_eq]; omega), w64_id (n := 2147483647 - (a : Int)) (by omega) (by omega), Option.bind_some, if_f (by rw [decide_eq_true_eq]; omega)]
  have hc : ∀ i, i ≤ l.length → Ct a (puts nd [] (leaves a (l.take i))) (a + i) := fun i hi => by
    have := puts_ct nd (leaves a (l.take i)) [] a _ rfl (leaves_fw _ a)
    rw [List.length_take, Nat.min_eq_left hi] at this; exact this
  have h1 := loopS_cnt (f := fun (s : Int × (List T_frontier_part)) => frontier_Of_L1 l (a : Int) s.1 s.2) (fun i (_ : Unit) => ((i : Int), rv (puts nd [] (leaves a (l.take i))))) (fun _ s => s) 0 l.length (fun i s _ hi => by
    simp only [frontier_Of_L1]
    have hx : ((w64 ((a : Int) + (i : Int)), (1 : Int), l[i]) : T_frontier_part) = mp (a + i, 0, l[i]) := by
      rw [w64_id (by omega) (by omega)]; rfl
    rw [if_t (by rw [decide_eq_true_eq]; omega), bind_some' (lget_at rfl hi), Option.bind_some, hx, bind_some' (put_eq (a := a) _ _ (hc i (by omega)) (by show a + i + 2 ^ 0 ≤ _; omega)), w64_id (n := (i : Int) + 1) (by omega) (by omega)]
    rw [List.take_succ_eq_append_getElem hi, leaves_snoc, puts_snoc, List.length_take, Nat.min_eq_left (by omega)]; rfl) (fun s => by
    simp only [frontier_Of_L1]
    rw [if_f (by rw [decide_eq_true_eq]; omega)]) FU () (by omega) (fu_lt (by omega))
  have h1' : loopS (fun (s : Int × (List T_frontier_part)) => frontier_Of_L1 l (a : Int) s.1 s.2) FU ((0 : Int), ([] : List T_frontier_part)) = some ((l.length : Int), rv (puts nd [] (leaves a (l.take l.length)))) := h1
  rw [bind_some' h1', List.take_length]
  have hlen := ct_len _ _ (hc l.length (Nat.le_refl _))
  rw [List.take_length] at hlen
  rw [bind_some' (hashes_rv _ (by omega)), Option.bind_some, w64_id (n := (a : Int) + (l.length : Int)) (by omega) (by omega)]
  rfl
theorem of_no (l : List T_api_Hash) (a : Int) (hl : l.length ≤ 4000000000) (h : ¬ (0 ≤ a ∧ a + l.length ≤ 2147483647)) : frontier_Of a l = some ((0, 0, []), (1 : Int)) := by
  unfold frontier_Of
  by_cases h1 : a < 0
  · rw [if_t (by rw [decide_eq_true_eq]; exact h1), Option.bind_some, if_t rfl, Option.bind_some, if_t rfl]
  · rw [if_f (by rw [decide_eq_true_eq]; exact h1), Option.bind_some]
    by_cases h2 : 2147483647 < a
    · rw [if_t (by rw [decide_eq_true_eq]; exact h2), Option.bind_some, if_t rfl]
    · rw [if_f (by rw [decide_eq_true_eq]; exact h2), w64_id (n := 2147483647 - a) (by omega) (by omega), Option.bind_some, if_t (by rw [decide_eq_true_eq]; omega)]
end Go.Sl.Pu
