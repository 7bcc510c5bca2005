import Derived.Test.YtcikfilncagbgaaDoorPtr2
set_option linter.unusedSimpArgs false
set_option linter.unusedVariables false
set_option maxRecDepth 20000
/-! Who has a right trail for something else has two texts with one hash. -/
namespace Go.Sl.Pu
open Go.Sl Go.Sl.M Go.Sl.Fr
attribute [local irreducible] sha nd w64 p2 hsh segs
/-! ## Clash -/
def sumO {τ ρ : Type} (o : Option ρ) (t : τ) : τ ⊕ ρ := match o with | some x => .inr x | none => .inl t
theorem loopO_scan' {τ ρ : Type} {f : τ → Option (LR τ ρ)} (en : Nat → τ) (n : Nat) (r : Nat → Option ρ) (h : ∀ i, i < n → f (en i) = some (match r i with | some x => .ret x | none => .next (en (i + 1)))) (he : f (en n) = some (.brk (en n))) (hn : n ≤ 9000000000) :
    loopO f FU (en 0) = some (sumO ((List.range n).findSome? r) (en n)) := by
  rw [loopO_scan en n r h he hn]
  unfold sumO
  cases (List.range n).findSome? r <;> rfl
def clB (u v : List (BitVec 8)) : Bool := decide (u ≠ v ∧ sha u = sha v)
theorem clash_eq (a b : List (List (BitVec 8))) (ha : a.length ≤ 4000000000) (hb : b.length ≤ 4000000000) (h1 : ∀ u ∈ a, u.length ≤ 4000000000) (h2 : ∀ u ∈ b, u.length ≤ 4000000000) (h : Cl a b) : rolodexref12_Clash a b = some true := by
  unfold rolodexref12_Clash
  have inner : ∀ i (hi : i < a.length), loopO (fun (s : Int) => rolodexref12_Clash_L2 b a (i : Int) s) FU (0 : Int) = some (sumO ((List.range b.length).findSome? (fun k => if clB (a[i]?.getD []) (b[k]?.getD []) = true then some true else none)) (b.length : Int)) := by
    intro i hi
    have hh := loopO_scan' (f := fun (s : Int) => rolodexref12_Clash_L2 b a (i : Int) s) (fun k => (k : Int)) b.length (fun k => if clB (a[i]?.getD []) (b[k]?.getD []) = true then some true else none) (fun k hk => ?_) ?_ (by omega)
    · exact hh
    · simp only [rolodexref12_Clash_L2]
      have u1 := h1 _ (List.getElem_mem hi)
      have u2 := h2 _ (List.getElem_mem hk)
      have g1 : lget a (i : Int) = some a[i] := lget_at rfl hi
      have g2 : lget b (k : Int) = some b[k] := lget_at rfl hk
      rw [if_t (by rw [decide_eq_true_eq]; omega), bind_some' g1, bind_some' g2, bind_some' (same_eq _ _ (by omega)), List.getElem?_eq_getElem hi, List.getElem?_eq_getElem hk, Option.getD_some, Option.getD_some]
      have w1 : w64 ((k : Int) + 1) = ((k + 1 : Nat) : Int) := w64_p1 _ (by omega)
      by_cases e : a[i] = b[k]
      · rw [if_f (by simp [e]), Option.bind_some, if_f (by decide), w1]
        unfold clB
        rw [decide_eq_false (fun hh => hh.1 e)]
        rfl
      · rw [if_t (by simp [e]), bind_some' g1, bind_some' (sumr_eq _ u1), bind_some' g2, bind_some' (sumr_eq _ u2), Option.bind_some]
        by_cases e2 : sha a[i] = sha b[k]
        · rw [decide_eq_true e2, if_t rfl]
          unfold clB
          rw [decide_eq_true ⟨e, e2⟩]
          rfl
        · rw [decide_eq_false e2, if_f (by decide), w1]
          unfold clB
          rw [decide_eq_false (fun hh => e2 hh.2)]
          rfl
    · simp only [rolodexref12_Clash_L2]
      rw [if_f (by rw [decide_eq_true_eq]; omega)]
  have outer := loopO_scan' (f := fun (s : Int) => rolodexref12_Clash_L1 a b s) (fun i => (i : Int)) a.length (fun i => (List.range b.length).findSome? (fun k => if clB (a[i]?.getD []) (b[k]?.getD []) = true then some true else none)) (fun i hi => by
    simp only [rolodexref12_Clash_L1]
    rw [if_t (by rw [decide_eq_true_eq]; omega), bind_some' (inner i hi), w64_p1 i (by omega)]
    cases hc : (List.range b.length).findSome? (fun k => if clB (a[i]?.getD []) (b[k]?.getD []) = true then some true else none) with
    | none => rfl
    | some x => rfl) (by
    simp only [rolodexref12_Clash_L1]
    rw [if_f (by rw [decide_eq_true_eq]; omega)]) (by omega)
  have outer' : loopO (fun (s : Int) => rolodexref12_Clash_L1 a b s) FU (0 : Int) = _ := outer
  rw [bind_some' outer']
  have hone : ∀ i : Nat, (List.range b.length).findSome? (fun k => if clB (a[i]?.getD []) (b[k]?.getD []) = true then some true else none) = none ∨ (List.range b.length).findSome? (fun k => if clB (a[i]?.getD []) (b[k]?.getD []) = true then some true else none) = some true := by
    intro i
    cases hc : (List.range b.length).findSome? (fun k => if clB (a[i]?.getD []) (b[k]?.getD []) = true then some true else none) with
    | none => exact .inl rfl
    | some x =>
      obtain ⟨k, _, hk⟩ := List.exists_of_findSome?_eq_some hc
      split at hk
      · cases hk; exact .inr rfl
      · cases hk
  obtain ⟨u, hu, v, hv, h3, h4⟩ := h
  obtain ⟨i, hi, hiu⟩ := List.getElem_of_mem hu
  obtain ⟨k, hk, hkv⟩ := List.getElem_of_mem hv
  have hfs := find_some (x := true) (n := a.length) (r := fun i => (List.range b.length).findSome? (fun k => if clB (a[i]?.getD []) (b[k]?.getD []) = true then some true else none)) (fun i _ => hone i) ⟨i, hi, by
    intro hc
    rw [List.findSome?_eq_none_iff] at hc
    have : (if clB (a[i]?.getD []) (b[k]?.getD []) = true then some true else none) = none := hc k (List.mem_range.2 hk)
    rw [List.getElem?_eq_getElem hi, List.getElem?_eq_getElem hk, Option.getD_some, Option.getD_some, hiu, hkv] at this
    unfold clB at this
    rw [decide_eq_true ⟨h3, h4⟩] at this
    cases this⟩
  rw [hfs]
  rfl
/-! ## The texts of a list's tree -/
theorem tts_lens : ∀ (n : Nat) (l : List T_api_Hash), l.length ≤ n → (tts l).length ≤ l.length - 1 ∧ ∀ u ∈ tts l, u.length = 65 := by
  intro n
  induction n with
  | zero =>
    intro l hl
    rw [tts, dif_neg (by omega)]
    exact ⟨by simp, fun u hu => by cases hu⟩
  | succ n ih =>
    intro l hl
    rw [tts]
    by_cases h : 2 ≤ l.length
    · rw [dif_pos h]
      have h1 := half_lt h
      have h2 := half_pos l.length
      have e1 : (l.take (half l.length)).length = half l.length := by rw [List.length_take]; omega
      have e2 : (l.drop (half l.length)).length = l.length - half l.length := List.length_drop ..
      obtain ⟨a1, a2⟩ := ih (l.take (half l.length)) (by omega)
      obtain ⟨b1, b2⟩ := ih (l.drop (half l.length)) (by omega)
      refine ⟨by rw [List.length_append, List.length_append, List.length_singleton]; omega, fun u hu => ?_⟩
      rcases List.mem_append.1 hu with hu | hu
      · rcases List.mem_append.1 hu with hu | hu
        · exact a2 u hu
        · exact b2 u hu
      · rw [List.mem_singleton.1 hu]; exact txt_len _ _
    · rw [dif_neg h]
      exact ⟨by simp, fun u hu => by cases hu⟩
theorem tree_eq : ∀ (n : Nat) (l : List T_api_Hash), l.length < n → l.length ≤ 1000000 → rolodexref16_Tree_F n l = some (tts l) := by
  intro n
  induction n with
  | zero => intro l h; omega
  | succ n ih =>
    intro l h hl
    show rolodexref16_Tree_B (rolodexref16_Tree_F n) l = _
    unfold rolodexref16_Tree_B
    rw [tts]
    by_cases h2 : 2 ≤ l.length
    · have h1 := halfloop (f := fun (s : Int) => rolodexref16_Tree_L1 l s) l.length (by omega) h2 (fun y1 => rfl)
      have hlt := half_lt h2
      have hpos := half_pos l.length
      have e1 : (l.take (half l.length)).length = half l.length := by rw [List.length_take]; omega
      have e2 : (l.drop (half l.length)).length = l.length - half l.length := List.length_drop ..
      have ta := tts_lens _ (l.take (half l.length)) (Nat.le_refl _)
      have tb := tts_lens _ (l.drop (half l.length)) (Nat.le_refl _)
      have s1 : lslice l 0 ((half l.length : Nat) : Int) = some (l.take (half l.length)) := by
        rw [lslice_at (lo := (0 : Int)) (a := 0) (b := half l.length) rfl rfl (by omega) (by omega), List.drop_zero]
      have s2 : lslice l ((half l.length : Nat) : Int) (l.length : Int) = some (l.drop (half l.length)) := by
        rw [lslice_at (a := half l.length) (b := l.length) rfl rfl (by omega) (Nat.le_refl _), List.take_length]
      rw [dif_pos h2, if_f (by rw [decide_eq_true_eq]; omega), bind_some' h1, bind_some' s1, bind_some' (ih _ (by omega) (by omega)), bind_some' s2, bind_some' (ih _ (by omega) (by omega)), if_t (ap_ok (by omega)), bind_some' s1, bind_some' (rlist_eq _ (by omega)), bind_some' s2, bind_some' (rlist_eq _ (by omega)), bind_some' (rtext_eq _ _), if_t (ap_ok (by rw [List.length_append]; simp only [List.length_singleton]; omega))]
    · rw [dif_neg h2, if_t (by rw [decide_eq_true_eq]; omega)]
/-! ## The texts of a trail -/
abbrev hR (L : List (P Tr)) : List (P T_api_Hash) := mapR Tr.h L
theorem hR_app (A B : List (P Tr)) : hR (A ++ B) = hR A ++ hR B := by simp [mapR]
theorem hR_len (L : List (P Tr)) : (hR L).length = L.length := by simp [mapR]
theorem joined1 (l : List T_api_Hash) (R : List (P T_api_Hash)) {e : Nat} (he : e ≤ l.length) (hl : l.length ≤ 1000000) : ∀ (n : Nat) (L : List (P Tr)) (out : List (List (BitVec 8))) (fuel : Nat), L.length ≤ n → Fw 0 L e → (∀ x ∈ L, Ok l R out x.1 (2 ^ x.2.1) x.2.2) → (∀ u ∈ out, u.length = 65) → out.length + n ≤ 2000000 → n < fuel →
    ∃ L' out', loopS (fun (s : (List Int) × (List T_api_Hash) × Int × (List (List (BitVec 8)))) => rolodexref16_Joined_L1 (0 : Int) s.1 s.2.1 s.2.2.1 s.2.2.2) fuel (sz (hR L), hh (hR L), fmI (hR L), out) = some (sz (hR L'), hh (hR L'), -1, out') ∧ Fw 0 L' e ∧ NfF L' ∧ (∀ x ∈ L', Ok l R out' x.1 (2 ^ x.2.1) x.2.2) ∧ (∀ u ∈ out', u.length = 65) ∧ puts nd [] (hR L') = puts nd [] (hR L) ∧ out'.length + L'.length = out.length + L.length := by
  intro n
  induction n with
  | zero =>
    intro L out fuel hn hf hok h65 ho hfu
    obtain ⟨fuel, rfl⟩ : ∃ m, fuel = m + 1 := ⟨fuel - 1, by omega⟩
    have : L = [] := List.length_eq_zero_iff.1 (by omega)
    subst this
    refine ⟨[], out, ?_, hf, trivial, (fun x hx => by cases hx), h65, rfl, rfl⟩
    rw [loopS_brk (s' := (sz (hR []), hh (hR []), -1, out)) (by
      simp only [rolodexref16_Joined_L1]
      rw [show fmI (hR []) = -1 from rfl, if_f (by simp)])]
  | succ n ih =>
    intro L out fuel hn hf hok h65 ho hfu
    obtain ⟨fuel, rfl⟩ : ∃ m, fuel = m + 1 := ⟨fuel - 1, by omega⟩
    cases hc : fm L with
    | none =>
      have hfm : fmI (hR L) = -1 := by unfold fmI; rw [fm_map, hc]
      refine ⟨L, out, ?_, hf, fm_none L hc, hok, h65, rfl, rfl⟩
      rw [loopS_brk (s' := (sz (hR L), hh (hR L), -1, out)) (by
        simp only [rolodexref16_Joined_L1]
        rw [hfm, if_f (by simp)])]
    | some j =>
      obtain ⟨A, y, x, B, hL, hA, hk, hd⟩ := fm_some L j hc
      subst hL
      have hfm : fmI (hR (A ++ y :: x :: B)) = (A.length : Int) := by unfold fmI; rw [fm_map, hc, hA]
      have hf' := fw_merge (h := Tr.node y.2.2 x.2.2) hf hk hd
      have hle := fw_le _ _ _ hf
      simp only [List.length_append, List.length_cons] at hn hle
      obtain ⟨c, c1, c2⟩ := fw_split _ _ _ _ hf
      have hlex := fw_le _ _ _ c2.2.2.2.2
      have hxy : x.1 = y.1 + 2 ^ y.2.1 := c2.2.2.1
      have hps := pow_step y.2.1
      have hpo := two_pos y.2.1
      have hp2 : 2 ^ x.2.1 = 2 ^ y.2.1 := by rw [hk]
      have o1 := hok y (by simp)
      have o2 := hok x (by simp)
      have hT : ∀ u ∈ out, u ∈ out ++ [txt y.2.2.h x.2.2.h] := fun u hu => List.mem_append_left _ hu
      have onew : Ok l R (out ++ [txt y.2.2.h x.2.2.h]) y.1 (2 ^ (y.2.1 + 1)) (Tr.node y.2.2 x.2.2) := by
        refine ok_node (k := y.2.1) (by omega) (Nat.le_refl _) (by omega) (ok_mono o1 hT) ?_ (by simp)
        rw [show 2 ^ (y.2.1 + 1) - 2 ^ y.2.1 = 2 ^ x.2.1 by omega, ← hxy]
        exact ok_mono o2 hT
      have hok' : ∀ z ∈ A ++ (y.1, y.2.1 + 1, Tr.node y.2.2 x.2.2) :: B, Ok l R (out ++ [txt y.2.2.h x.2.2.h]) z.1 (2 ^ z.2.1) z.2.2 := by
        intro z hz
        rcases List.mem_append.1 hz with hz | hz
        · exact ok_mono (hok z (by simp [hz])) hT
        · rcases List.mem_cons.1 hz with rfl | hz
          · exact onew
          · exact ok_mono (hok z (by simp [hz])) hT
      have hfh : Fw 0 (hR A ++ (y.1, y.2.1, y.2.2.h) :: (x.1, x.2.1, x.2.2.h) :: hR B) e := by
        have := (fw_map Tr.h (A ++ y :: x :: B) 0 e).2 hf
        rw [show mapR Tr.h (A ++ y :: x :: B) = hR A ++ (y.1, y.2.1, y.2.2.h) :: (x.1, x.2.1, x.2.2.h) :: hR B by simp [mapR]] at this
        exact this
      have hE : hR (A ++ y :: x :: B) = hR A ++ (y.1, y.2.1, y.2.2.h) :: (x.1, x.2.1, x.2.2.h) :: hR B := by simp [mapR]
      have hE' : hR (A ++ (y.1, y.2.1 + 1, Tr.node y.2.2 x.2.2) :: B) = hR A ++ (y.1, y.2.1 + 1, nd y.2.2.h x.2.2.h) :: hR B := by simp [mapR, Tr.h]
      obtain ⟨L', out', i1, i2, i3, i4, i5, i6, i7⟩ := ih (A ++ (y.1, y.2.1 + 1, Tr.node y.2.2 x.2.2) :: B) (out ++ [txt y.2.2.h x.2.2.h]) fuel (by rw [List.length_append, List.length_cons]; omega) hf' hok' (fun u hu => by
        rcases List.mem_append.1 hu with hu | hu
        · exact h65 u hu
        · rw [List.mem_singleton.1 hu]; exact txt_len _ _) (by rw [List.length_append, List.length_singleton]; omega) (by omega)
      refine ⟨L', out', ?_, i2, i3, i4, i5, ?_, ?_⟩
      · have hlA : (hR A).length = A.length := hR_len A
        have e1 : lget (hh (hR (A ++ y :: x :: B))) (A.length : Int) = some y.2.2.h := by
          rw [lget_at rfl (by rw [hh_len, hR_len, List.length_append, List.length_cons]; omega)]
          simp [hE, hh, hlA]
        have e2 : lget (hh (hR (A ++ y :: x :: B))) (w64 ((A.length : Int) + 1)) = some x.2.2.h := by
          rw [w64_p1 _ (by omega), lget_at rfl (by rw [hh_len, hR_len, List.length_append, List.length_cons, List.length_cons]; omega)]
          simp only [hE, hh, List.map_append, List.map_cons]
          rw [List.getElem_append_right (by rw [List.length_map, hlA]; omega)]
          simp [hlA]
        have e3 : rolodexref15_Made (sz (hR (A ++ y :: x :: B))) (hh (hR (A ++ y :: x :: B))) (A.length : Int) = some (sz (hR (A ++ (y.1, y.2.1 + 1, Tr.node y.2.2 x.2.2) :: B)), hh (hR (A ++ (y.1, y.2.1 + 1, Tr.node y.2.2 x.2.2) :: B))) := by
          rw [hE, hE', ← hlA]
          exact made_eq hfh (by omega)
        have hf3 : Fw 0 (hR (A ++ (y.1, y.2.1 + 1, Tr.node y.2.2 x.2.2) :: B)) e := (fw_map Tr.h _ 0 e).2 hf'
        have e4 : rolodexref15_First (0 : Int) (sz (hR (A ++ (y.1, y.2.1 + 1, Tr.node y.2.2 x.2.2) :: B))) = some (fmI (hR (A ++ (y.1, y.2.1 + 1, Tr.node y.2.2 x.2.2) :: B))) := first_eq _ 0 e hf3 (by omega)
        rw [loopS_next (s' := (sz (hR (A ++ (y.1, y.2.1 + 1, Tr.node y.2.2 x.2.2) :: B)), hh (hR (A ++ (y.1, y.2.1 + 1, Tr.node y.2.2 x.2.2) :: B)), fmI (hR (A ++ (y.1, y.2.1 + 1, Tr.node y.2.2 x.2.2) :: B)), out ++ [txt y.2.2.h x.2.2.h])) (by
          simp only [rolodexref16_Joined_L1]
          rw [hfm, if_t (by rw [decide_eq_true_eq]; omega), bind_some' e1, bind_some' e2, bind_some' (rtext_eq _ _), if_t (ap_ok (by rw [List.length_singleton]; omega)), bind_some' e3, bind_some' e4]), i1]
      · rw [i6, hE', hE]
        exact (puts_merge nd (a := 0) (hR A) (hR B) (y.1, y.2.1, y.2.2.h) (x.1, x.2.1, x.2.2.h) [] rfl hfh hk hd).symm
      · simp only [List.length_append, List.length_cons, List.length_nil] at i7 ⊢
        omega
/-- The texts of the fold. -/
def ft (z : T_api_Hash) : List T_api_Hash → List (List (BitVec 8))
  | x :: y :: l => txt x (fold1 nd z (y :: l)) :: ft z (y :: l)
  | _ => []
theorem ft_snoc2 (z : T_api_Hash) : ∀ (l : List T_api_Hash) (x y : T_api_Hash), ∀ u ∈ ft z (l ++ [x, y]), u ∈ ft z (l ++ [nd x y]) ∨ u = txt x y
  | [], x, y, u, hu => by
    rcases List.mem_cons.1 hu with rfl | hu
    · exact .inr rfl
    · cases hu
  | [w], x, y, u, hu => by
    rcases List.mem_cons.1 hu with rfl | hu
    · exact .inl (List.mem_cons_self ..)
    · rcases List.mem_cons.1 hu with rfl | hu
      · exact .inr rfl
      · cases hu
  | w :: v :: l, x, y, u, hu => by
    rcases List.mem_cons.1 hu with rfl | hu
    · left
      show _ ∈ txt w (fold1 nd z (v :: l ++ [nd x y])) :: _
      rw [show fold1 nd z (v :: l ++ [nd x y]) = fold1 nd z (v :: l ++ [x, y]) from (fold1_snoc2 z (v :: l) x y).symm]
      exact List.mem_cons_self ..
    · rcases ft_snoc2 z (v :: l) x y u hu with h | h
      · exact .inl (List.mem_cons_of_mem _ h)
      · exact .inr h
theorem joined2 (z : T_api_Hash) : ∀ (n : Nat) (M : List T_api_Hash) (out : List (List (BitVec 8))) (fuel : Nat), M.length ≤ n → (∀ u ∈ out, u.length = 65) → out.length + n ≤ 2000000 → n < fuel →
    ∃ M' out', loopS (fun (s : (List T_api_Hash) × (List (List (BitVec 8)))) => rolodexref16_Joined_L2 s.1 s.2) fuel (M, out) = some (M', out') ∧ (∀ u ∈ out, u ∈ out') ∧ (∀ u ∈ ft z M, u ∈ out') ∧ (∀ u ∈ out', u.length = 65) ∧ out'.length ≤ out.length + M.length := by
  intro n
  induction n with
  | zero =>
    intro M out fuel hn h65 ho hfu
    obtain ⟨fuel, rfl⟩ : ∃ m, fuel = m + 1 := ⟨fuel - 1, by omega⟩
    have : M = [] := List.length_eq_zero_iff.1 (by omega)
    subst this
    exact ⟨[], out, loopS_brk (by simp [rolodexref16_Joined_L2]), fun u h => h, (fun u h => by cases h), h65, Nat.le_add_right _ _⟩
  | succ n ih =>
    intro M out fuel hn h65 ho hfu
    obtain ⟨fuel, rfl⟩ : ∃ m, fuel = m + 1 := ⟨fuel - 1, by omega⟩
    by_cases h1 : 1 < M.length
    · obtain ⟨M0, x, y, rfl⟩ : ∃ M0 x y, M = M0 ++ [x, y] := by
        refine ⟨M.take (M.length - 2), M[M.length - 2], M[M.length - 1], ?_⟩
        have e1 : M.drop (M.length - 2) = [M[M.length - 2], M[M.length - 1]] := by
          rw [List.drop_eq_getElem_cons (by omega), List.drop_eq_getElem_cons (by omega), List.drop_eq_nil_of_le (by omega)]
          simp only [show M.length - 2 + 1 = M.length - 1 by omega]
        rw [← e1, List.take_append_drop]
      rw [List.length_append] at hn h1
      simp only [List.length_cons, List.length_nil] at hn h1
      have w2 : w64 (((M0 ++ [x, y]).length : Int) - 2) = (M0.length : Int) := by rw [List.length_append]; simp only [List.length_cons, List.length_nil]; rw [w64_id (by omega) (by omega)]; omega
      have w1 : w64 (((M0 ++ [x, y]).length : Int) - 1) = ((M0.length + 1 : Nat) : Int) := by rw [List.length_append]; simp only [List.length_cons, List.length_nil]; rw [w64_id (by omega) (by omega)]; omega
      have g1 : lget (M0 ++ [x, y]) (w64 (((M0 ++ [x, y]).length : Int) - 2)) = some x := by
        rw [w2, lget_at rfl (by rw [List.length_append]; simp)]; simp
      have g2 : lget (M0 ++ [x, y]) (w64 (((M0 ++ [x, y]).length : Int) - 1)) = some y := by
        rw [w1, lget_at rfl (by rw [List.length_append]; simp), List.getElem_append_right (by omega)]; simp
      have g3 : lslice (M0 ++ [x, y]) 0 (w64 (((M0 ++ [x, y]).length : Int) - 2)) = some M0 := by
        rw [w2, lslice_at (lo := (0 : Int)) (a := 0) (b := M0.length) rfl rfl (Nat.zero_le _) (by rw [List.length_append]; exact Nat.le_add_right _ _), List.take_left, List.drop_zero]
      clear w1 w2
      obtain ⟨M', out', i1, i2, i3, i4, i5⟩ := ih (M0 ++ [nd x y]) (out ++ [txt x y]) fuel (by rw [List.length_append, List.length_singleton]; omega) (fun u hu => by
        rcases List.mem_append.1 hu with hu | hu
        · exact h65 u hu
        · rw [List.mem_singleton.1 hu]; exact txt_len _ _) (by rw [List.length_append, List.length_singleton]; omega) (by omega)
      refine ⟨M', out', ?_, fun u hu => i2 u (List.mem_append_left _ hu), fun u hu => ?_, i4, ?_⟩
      · rw [loopS_next (s' := (M0 ++ [nd x y], out ++ [txt x y])) (by
          simp only [rolodexref16_Joined_L2]
          rw [if_t (by rw [decide_eq_true_eq, List.length_append]; simp only [List.length_cons, List.length_nil]; omega), bind_some' g1, bind_some' g2, bind_some' (rtext_eq _ _), if_t (ap_ok (by rw [List.length_singleton]; omega)), bind_some' g3, if_t (ap_ok (by simp only [List.length_nil]; omega)), bind_some' g1, bind_some' g2, bind_some' (rnode_eq _ _), if_t (ap_ok (by rw [List.nil_append, List.length_singleton]; omega)), List.nil_append]), i1]
      · rcases ft_snoc2 z M0 x y u hu with h | h
        · exact i3 u h
        · rw [h]; exact i2 _ (by simp)
      · simp only [List.length_append, List.length_cons, List.length_nil] at i5 ⊢
        omega
    · refine ⟨M, out, loopS_brk (by
        simp only [rolodexref16_Joined_L2]
        rw [if_f (by rw [decide_eq_true_eq]; omega)]), fun u h => h, fun u h => ?_, h65, by omega⟩
      match M, h1, h with
      | [], _, h => cases h
      | [_], _, h => cases h
      | _ :: _ :: _, h1, _ => simp at h1
theorem ft_mem (z : Tr) {T : List (List (BitVec 8))} : ∀ (l : List Tr), (∀ u ∈ ft z.h (l.map Tr.h), u ∈ T) → ∀ A x y B, l = A ++ x :: y :: B → txt x.h (foldT z (y :: B)).h ∈ T
  | [], h, A, x, y, B, hl => by cases A <;> cases hl
  | w :: l, h, [], x, y, B, hl => by
    injection hl with e1 e2
    subst e1 e2
    apply h
    rw [foldT_h]
    exact List.mem_cons_self ..
  | w :: l, h, a :: A, x, y, B, hl => by
    injection hl with e1 e2
    refine ft_mem z l (fun u hu => h u ?_) A x y B e2
    match l, hu with
    | v :: l, hu => exact List.mem_cons_of_mem _ hu
    | [], hu => cases hu
/-- A row of given hashes, joined to a list's root: two texts with one hash, or all its hashes are right. -/
theorem joined_eq (l : List T_api_Hash) (hl : l.length ≤ 1000000) (hne : l ≠ []) (R : List (P T_api_Hash)) (hR0 : Fw 0 R l.length) (hroot : fold1 nd zeroH (hof (puts nd [] R)) = mth l) :
    ∃ out, rolodexref16_Joined (0 : Int) (sz R) (hh R) = some out ∧ out.length ≤ 3000000 ∧ (∀ u ∈ out, u.length = 65) ∧ (Cl out (tts l) ∨ ∀ x ∈ R, x.2.2 = mth (sl l x.1 (2 ^ x.2.1))) := by
  have hRl := fw_le _ _ _ hR0
  have hmm : hR (mapR Tr.part R) = R := by
    simp only [hR, mapR, List.map_map]
    conv => rhs; rw [← List.map_id R]
    exact List.map_congr_left (fun x _ => rfl)
  have hf : Fw 0 (mapR Tr.part R) l.length := (fw_map Tr.part R 0 _).2 hR0
  have hlen : (mapR Tr.part R).length = R.length := by simp [mapR]
  obtain ⟨L', out', i1, i2, i3, i4, i5, i6, i7⟩ := joined1 l R (Nat.le_refl _) hl R.length (mapR Tr.part R) [] FU (by omega) hf (by
    intro x hx
    obtain ⟨y, hy, rfl⟩ := List.mem_map.1 hx
    exact ok_part hR0 hy) (fun u hu => by cases hu) (by simp; omega) (fu_lt (by omega))
  rw [hmm] at i1 i6
  rw [hlen, List.length_nil] at i7
  have hL'l := fw_le _ _ _ i2
  obtain ⟨M', out'', k1, k2, k3, k4, k5⟩ := joined2 zeroH L'.length (hh (hR L')) out' FU (by rw [hh_len, hR_len]; exact Nat.le_refl _) i5 (by omega) (fu_lt (by omega))
  rw [hh_len, hR_len] at k5
  have hfirst : rolodexref15_First (0 : Int) (sz R) = some (fmI R) := first_eq R 0 _ hR0 (by omega)
  refine ⟨out'', ?_, by omega, k4, ?_⟩
  · unfold rolodexref16_Joined
    rw [bind_some' hfirst, bind_some' i1]
    simp only []
    rw [bind_some' k1]
  · have hne' : L' ≠ [] := by
      intro hc
      rw [hc] at i2
      have h0 : 0 = l.length := i2
      exact hne (List.length_eq_zero_iff.1 h0.symm)
    have hnf : puts nd [] (hR L') = (hR L').reverse := by
      rw [puts_of_nf nd _ [] ((nf_map Tr.h L').2 i3) (fun y hy => by cases hy), List.append_nil]
    have hhof : hof (puts nd [] R) = (L'.map (·.2.2)).map Tr.h := by
      rw [← i6, hnf]
      simp [hof, mapR, Function.comp_def]
    have hhh : hh (hR L') = (L'.map (·.2.2)).map Tr.h := by simp [hh, mapR, Function.comp_def]
    have ok := ok_fold (l := l) (R := R) (T := out'') (z := Tr.part zeroH) L' 0 l.length hne' i2 i3 (fun x hx => ok_mono (i4 x hx) k2) (Nat.le_refl _) (fun i _ => Nat.dvd_zero _) (ft_mem (Tr.part zeroH) _ (by rw [← hhh]; exact k3))
    have hs : sl l 0 (l.length - 0) = l := by unfold sl; rw [List.drop_zero, Nat.sub_zero, List.take_length]
    unfold Ok at ok
    rw [hs] at ok
    have hroot' : (foldT (Tr.part zeroH) (L'.map (·.2.2))).h = mth l := by
      rw [foldT_h, ← hhof]; exact hroot
    rcases clash_or _ l ok.1 hroot' with h | h
    · obtain ⟨u, hu, v, hv, hx⟩ := h
      exact .inl ⟨u, ok.2.1 u hu, v, hv, hx⟩
    · refine .inr (fun x hx => ok.2.2 h x hx (Nat.zero_le _) ?_)
      have := fw_mem _ _ _ x hR0 hx
      have := two_pos x.2.1
      omega
/-! ## Laws -/
attribute [local irreducible] joinS rootS allS formed rowR
theorem cl_len {out : List (List (BitVec 8))} {l : List T_api_Hash} (h1 : out.length ≤ 3000000) (h2 : ∀ u ∈ out, u.length = 65) (hl : l.length ≤ 1000000) (h : Cl out (tts l)) : rolodexref12_Clash out (tts l) = some true := by
  obtain ⟨t1, t2⟩ := tts_lens _ l (Nat.le_refl _)
  exact clash_eq _ _ (by omega) (by omega) (fun u hu => by rw [h2 u hu]; omega) (fun u hu => by rw [t2 u hu]; omega) h
theorem joinS_row3 {a b c : T_frontier_Range} (h1 : (joinS a b).2 = 0) (h2 : (joinS (joinS a b).1 c).2 = 0) :
    formed a = true ∧ formed b = true ∧ formed c = true ∧ a.2.1 = b.1 ∧ b.2.1 = c.1 ∧ (joinS (joinS a b).1 c).1 = (a.1, c.2.1, hof (puts nd [] ((rowR a ++ rowR b) ++ rowR c))) ∧ Fw a.1.toNat ((rowR a ++ rowR b) ++ rowR c) c.2.1.toNat := by
  have o1 := joinS_ok h1
  obtain ⟨j1, j2, j3⟩ := joinS_row o1
  have o2 := joinS_ok h2
  obtain ⟨k1, k2, k3⟩ := joinS_row o2
  obtain ⟨a1, a2, a3, a4⟩ := row_fw o1.1
  obtain ⟨b1, b2, b3, b4⟩ := row_fw o1.2.1
  obtain ⟨c1, c2, c3, c4⟩ := row_fw o2.2.1
  have hbc : b.2.1 = c.1 := by have := o2.2.2; rw [j1] at this; exact this
  have hn : Nf (puts nd [] (rowR a ++ rowR b)) := puts_nf nd _ [] trivial
  refine ⟨o1.1, o1.2.1, o2.2.1, o1.2.2, hbc, ?_, ?_⟩
  · rw [k1, j3]
    have e : puts nd [] ((puts nd [] (rowR a ++ rowR b)).reverse ++ rowR c) = puts nd [] ((rowR a ++ rowR b) ++ rowR c) := by
      have := nf_of_ct hn nd
      unfold puts at this ⊢
      rw [List.foldl_append, this, List.foldl_append (l := rowR a ++ rowR b)]
    rw [e, j1]
  · exact fw_app _ _ _ _ _ (fw_app _ _ _ _ _ a1 (by rw [o1.2.2]; exact b1)) (by rw [hbc]; exact c1)
theorem rootS_ok {r : T_frontier_Range} (h : (rootS r).2 = 0) : formed r = true ∧ r.1 = 0 ∧ (rootS r).1 = if r.2.2 = [] then sha [] else fold1 nd zeroH r.2.2 := by
  unfold rootS at h ⊢
  split at h
  · rename_i hc
    refine ⟨hc.1, hc.2, ?_⟩
    rw [if_pos hc]
    split <;> rfl
  · cases h
theorem row_one (i : Nat) (x : T_api_Hash) (hi : i + 1 ≤ 2147483647) : rowR ((i : Int), ((i + 1 : Nat) : Int), [x]) = [(i, 0, x)] := by
  have hs : segs i (i + 1) = [0] := segs_uniq (by omega) ⟨by omega, ⟨by rw [Nat.add_sub_cancel_left]; exact Nat.le_refl _, by simp, by rw [Nat.add_sub_cancel_left]; rintro ⟨h, _⟩; omega⟩, rfl⟩
  unfold rowR
  simp only [Int.toNat_natCast]
  rw [hs]; rfl
theorem hof_ne {H : Type} {L : List (P T_api_Hash)} {a e : Nat} (h : Fw a L e) (hne : a ≠ e) : hof (puts nd [] L) ≠ [] := by
  have hc := puts_ct nd _ [] a _ rfl h
  intro hh
  unfold hof at hh
  have : puts nd [] L = [] := by simpa using hh
  rw [this] at hc
  exact hne hc
theorem w64_len1 (i : Nat) (h : i ≤ 2147483647) (x : T_api_Hash) : w64 ((i : Int) + (([x] : List T_api_Hash).length : Int)) = (i : Int) + 1 := by
  rw [List.length_singleton, w64_id (by omega) (by omega)]; rfl
theorem w64_len0 (i : Nat) (h : i ≤ 2147483647) : w64 ((i : Int) + (([] : List T_api_Hash).length : Int)) = (i : Int) := by
  rw [List.length_nil, w64_id (by omega) (by omega)]; exact Int.add_zero _
theorem trailEntries (l : List T_api_Hash) (t : T_rolodexref16_Trail) (s : T_rolodexlaw16_Said) : rolodexlaw16_TrailEntries l t s = some true := by
  unfold rolodexlaw16_TrailEntries
  rw [bind_some' awake16, if_f (by decide), Option.bind_some]
  by_cases hb : 40 < l.length
  · rw [if_t (by rw [decide_eq_true_eq]; omega), Option.bind_some, if_t rfl, Option.bind_some, if_t rfl, bind_some' awake16]
  · rw [if_f (by rw [decide_eq_true_eq]; omega), bind_some' (few_eq t), Option.bind_some]
    by_cases hf : t.1.length ≤ 70 ∧ t.2.length ≤ 70
    · rw [if_f (by simp [hf]), bind_some' (rlist_eq l (by omega)), bind_some' (isE_eq _ _ _ _ _), Option.bind_some]
      by_cases hE : isE t s.1 l.length s.2.2.1 (mth l) = true
      · rw [hE, if_f (by decide)]
        unfold isE at hE
        rw [decide_eq_true_eq] at hE
        obtain ⟨h1, h2, h3, h4, h5⟩ := hE
        unfold allS at h4
        rw [decide_eq_true_eq] at h4
        obtain ⟨i, hi⟩ : ∃ n : Nat, s.1 = (n : Int) := ⟨s.1.toNat, by omega⟩
        rw [hi] at h1 h2 h4 h5 ⊢
        have hil : i < l.length := by omega
        rw [if_f (by rw [decide_eq_true_eq]; omega), Option.bind_some, if_f (by rw [decide_eq_true_eq]; omega), bind_some' (lget_at rfl hil)]
        by_cases hx : l[i] = s.2.2.1
        · rw [if_t (decide_eq_true hx)]
        · rw [if_f (by rw [decide_eq_true_eq]; exact hx)]
          obtain ⟨f1, f2, f3, e1, e2, j, hfw⟩ := joinS_row3 h4.1 h4.2.1
          have r1 := rootS_ok h4.2.2
          rw [j] at h5 r1
          have hne0 : hof (puts nd [] ((rowR (0, (i : Int), t.1) ++ rowR ((i : Int), (i : Int) + 1, [s.2.2.1])) ++ rowR ((i : Int) + 1, (l.length : Int), t.2))) ≠ [] := hof_ne (H := Unit) hfw (by simp only [Int.toNat_natCast]; show (0 : Int).toNat ≠ _; simp; omega)
          have hroot := r1.2.2
          rw [if_neg hne0] at hroot
          have hroot' := hroot.symm.trans h5
          have hfw' : Fw 0 ((rowR (0, (i : Int), t.1) ++ rowR ((i : Int), (i : Int) + 1, [s.2.2.1])) ++ rowR ((i : Int) + 1, (l.length : Int), t.2)) l.length := hfw
          obtain ⟨out, o1, o2, o3, o4⟩ := joined_eq l (by omega) (by intro hc; rw [hc] at hil; simp at hil) _ hfw' hroot'
          obtain ⟨a1, a2, a3, a4⟩ := row_fw f1
          obtain ⟨b1, b2, b3, b4⟩ := row_fw f2
          obtain ⟨c1, c2, c3, c4⟩ := row_fw f3
          have la := formed_le f1
          have lc := formed_le f3
          have sa := rsegments_eq 0 i (by omega) (by omega)
          have sb := rsegments_eq i (i + 1) (by omega) (by omega)
          have sc := rsegments_eq (i + 1) l.length (by omega) (by omega)
          have ea : sz (rowR (0, (i : Int), t.1)) = (segs 0 i).map p2 := a3
          have eb : sz (rowR ((i : Int), (i : Int) + 1, [s.2.2.1])) = (segs i (i + 1)).map p2 := b3
          have ec : sz (rowR ((i : Int) + 1, (l.length : Int), t.2)) = (segs (i + 1) l.length).map p2 := c3
          rw [← ea] at sa
          rw [← eb] at sb
          rw [← ec] at sc
          have na : (sz (rowR (0, (i : Int), t.1))).length ≤ 70 := by rw [sz_len, ← hh_len, a4]; exact hf.1
          have nb : (sz (rowR ((i : Int), (i : Int) + 1, [s.2.2.1]))).length ≤ 70 := by rw [sz_len, ← hh_len, b4]; simp
          have nc : (sz (rowR ((i : Int) + 1, (l.length : Int), t.2))).length ≤ 70 := by rw [sz_len, ← hh_len, c4]; exact hf.2
          have hT : rolodexref16_Texts t (i : Int) (l.length : Int) [s.2.2.1] = some out := by
            unfold rolodexref16_Texts
            have sa' : rolodexref15_Segments (0 : Int) (i : Int) = _ := sa
            have sb' : rolodexref15_Segments (i : Int) ((i : Int) + 1) = _ := sb
            have sc' : rolodexref15_Segments ((i : Int) + 1) (l.length : Int) = _ := sc
            rw [bind_some' sa', if_t (ap_ok (by simp only [List.length_nil]; omega)), w64_len1 i (by omega), bind_some' sb', if_t (ap_ok (by simp only [List.nil_append]; omega)), bind_some' sc', if_t (ap_ok (by simp only [List.nil_append, List.length_append]; omega)), if_t (ap_ok (by simp only [List.length_nil]; omega)), if_t (ap_ok (by simp only [List.nil_append, List.length_singleton]; omega)), if_t (ap_ok (by simp only [List.nil_append, List.length_append, List.length_singleton]; omega))]
            have z1 : ([] ++ sz (rowR (0, (i : Int), t.1)) ++ sz (rowR ((i : Int), (i : Int) + 1, [s.2.2.1]))) ++ sz (rowR ((i : Int) + 1, (l.length : Int), t.2)) = sz ((rowR (0, (i : Int), t.1) ++ rowR ((i : Int), (i : Int) + 1, [s.2.2.1])) ++ rowR ((i : Int) + 1, (l.length : Int), t.2)) := by simp [sz]
            have z2 : ([] ++ t.1 ++ [s.2.2.1]) ++ t.2 = hh ((rowR (0, (i : Int), t.1) ++ rowR ((i : Int), (i : Int) + 1, [s.2.2.1])) ++ rowR ((i : Int) + 1, (l.length : Int), t.2)) := by
              have q1 : hh (rowR (0, (i : Int), t.1)) = t.1 := a4
              have q2 : hh (rowR ((i : Int), (i : Int) + 1, [s.2.2.1])) = [s.2.2.1] := b4
              have q3 : hh (rowR ((i : Int) + 1, (l.length : Int), t.2)) = t.2 := c4
              conv => lhs; rw [← q1, ← q2, ← q3]
              simp [hh]
            rw [z1, z2, bind_some' o1]
          have hTr : rolodexref16_Tree l = some (tts l) := tree_eq FU l (fu_lt (by omega)) (by omega)
          rcases o4 with o4 | o4
          · rw [bind_some' hT, bind_some' hTr, bind_some' (cl_len o2 o3 (by omega) o4)]
          · exfalso
            apply hx
            have hmem : (i, 0, s.2.2.1) ∈ (rowR (0, (i : Int), t.1) ++ rowR ((i : Int), (i : Int) + 1, [s.2.2.1])) ++ rowR ((i : Int) + 1, (l.length : Int), t.2) := by
              have : rowR ((i : Int), (i : Int) + 1, [s.2.2.1]) = [(i, 0, s.2.2.1)] := row_one i s.2.2.1 (by omega)
              rw [this]; simp
            have := o4 _ hmem
            simp only [] at this
            rw [this]
            unfold sl
            rw [List.drop_eq_getElem_cons hil]
            exact (mth_one _).symm
      · rw [Bool.not_eq_true] at hE
        rw [hE, if_t (by rfl), bind_some' awake16]
    · rw [if_t (by rw [decide_eq_false hf]; rfl), Option.bind_some, if_t rfl, bind_some' awake16]
theorem root_row {l : List T_api_Hash} {m : Nat} (hm : m ≤ l.length) (hl : l.length ≤ 1000000) {R : List (P T_api_Hash)} (hf : Fw 0 R m) (hn : NfF R) (hv : ∀ x ∈ R, x.2.2 = mth (sl l x.1 (2 ^ x.2.1))) : (if R.map (fun x => x.2.2) = [] then sha [] else fold1 nd zeroH (R.map (fun x => x.2.2))) = mth (l.take m) := by
  by_cases hne : R = []
  · subst hne
    have h0 : 0 = m := hf
    subst h0
    rw [if_pos (show List.map (fun x : P T_api_Hash => x.2.2) [] = [] from rfl), List.take_zero, mth_nil]
  · rw [if_neg (by simpa using hne)]
    have := fold_row (b := 0) (l := l) R 0 m hne hf hn (fun x hx => by
      rw [hv x hx]; unfold vt sl; rw [Nat.sub_zero]) (Nat.le_refl _) (by omega) (fun i _ => Nat.dvd_zero _)
    rw [Nat.sub_zero, Nat.sub_zero, List.drop_zero] at this
    exact this
theorem trailGrowths (l : List T_api_Hash) (t : T_rolodexref16_Trail) (s : T_rolodexlaw16_Said) : rolodexlaw16_TrailGrowths l t s = some true := by
  unfold rolodexlaw16_TrailGrowths
  rw [bind_some' awake16, if_f (by decide), Option.bind_some]
  by_cases hb : 40 < l.length
  · rw [if_t (by rw [decide_eq_true_eq]; omega), Option.bind_some, if_t rfl, Option.bind_some, if_t rfl, bind_some' awake16]
  · rw [if_f (by rw [decide_eq_true_eq]; omega), bind_some' (few_eq t), Option.bind_some]
    by_cases hf : t.1.length ≤ 70 ∧ t.2.length ≤ 70
    · rw [if_f (by simp [hf]), bind_some' (rlist_eq l (by omega)), bind_some' (isG_eq _ _ _ _ _ (by omega)), Option.bind_some]
      by_cases hE : isG t s.1 l.length s.2.2.1 (mth l) = true
      · rw [hE, if_f (by decide)]
        unfold isG at hE
        rw [decide_eq_true_eq] at hE
        obtain ⟨h1, h2, h3, g1, g2, h4, g3, h5⟩ := hE
        obtain ⟨i, hi⟩ : ∃ n : Nat, s.1 = (n : Int) := ⟨s.1.toNat, by omega⟩
        rw [hi] at h1 h2 h4 h5 g1 g2 g3 ⊢
        have hil : i ≤ l.length := by omega
        rw [if_f (by rw [decide_eq_true_eq]; omega), Option.bind_some, if_f (by rw [decide_eq_true_eq]; omega), bind_some' (lslice_at (lo := (0 : Int)) (a := 0) (b := i) rfl rfl (by omega) hil), List.drop_zero, bind_some' (rlist_eq _ (by rw [List.length_take]; omega))]
        by_cases hx : mth (l.take i) = s.2.2.1
        · rw [if_t (decide_eq_true hx)]
        · rw [if_f (by rw [decide_eq_true_eq]; exact hx)]
          have ok := joinS_ok h4
          obtain ⟨j, j2, j3⟩ := joinS_row ok
          obtain ⟨f1, f3, e1⟩ := ok
          have r1 := rootS_ok g3
          have r0 := rootS_ok g1
          rw [j] at h5 r1
          obtain ⟨a1, a2, a3, a4⟩ := row_fw f1
          obtain ⟨c1, c2, c3, c4⟩ := row_fw f3
          have la := formed_le f1
          have lc := formed_le f3
          have a1' : Fw 0 (rowR (0, (i : Int), t.1)) i := a1
          have c1' : Fw i (rowR ((i : Int), (l.length : Int), t.2)) l.length := c1
          have hne : l ≠ [] := by
            intro hc
            have h0 : i = 0 := by rw [hc] at hil; simpa using hil
            apply hx
            have := root_row (l := l) (m := i) hil (by omega) a1' a2 (by
              have hz : rowR (0, (i : Int), t.1) = [] := by
                have := fw_le _ _ _ a1'
                exact List.length_eq_zero_iff.1 (by omega)
              rw [hz]
              intro x hx
              cases hx)
            rw [show (rowR (0, (i : Int), t.1)).map (fun x => x.2.2) = t.1 from a4] at this
            rw [← this, ← g2]
            exact r0.2.2.symm
          have hfw : Fw 0 (rowR (0, (i : Int), t.1) ++ rowR ((i : Int), (l.length : Int), t.2)) l.length := fw_app _ _ _ _ _ a1' c1'
          have hne0 : hof (puts nd [] (rowR (0, (i : Int), t.1) ++ rowR ((i : Int), (l.length : Int), t.2))) ≠ [] := hof_ne (H := Unit) hfw (by
            intro hc; exact hne (List.length_eq_zero_iff.1 hc.symm))
          have hroot := r1.2.2
          rw [if_neg hne0] at hroot
          have hroot' := hroot.symm.trans h5
          obtain ⟨out, o1, o2, o3, o4⟩ := joined_eq l (by omega) hne _ hfw hroot'
          have sa := rsegments_eq 0 i (by omega) (by omega)
          have sb := rsegments_eq i i (by omega) (by omega)
          have sc := rsegments_eq i l.length (by omega) (by omega)
          have sii : segs i i = [] := segs_uniq (Nat.le_refl _) rfl
          rw [sii] at sb
          have ea : sz (rowR (0, (i : Int), t.1)) = (segs 0 i).map p2 := a3
          have ec : sz (rowR ((i : Int), (l.length : Int), t.2)) = (segs i l.length).map p2 := c3
          rw [← ea] at sa
          rw [← ec] at sc
          have na : (sz (rowR (0, (i : Int), t.1))).length ≤ 70 := by rw [sz_len, ← hh_len, a4]; exact hf.1
          have nc : (sz (rowR ((i : Int), (l.length : Int), t.2))).length ≤ 70 := by rw [sz_len, ← hh_len, c4]; exact hf.2
          have hT : rolodexref16_Texts t (i : Int) (l.length : Int) [] = some out := by
            unfold rolodexref16_Texts
            have sa' : rolodexref15_Segments (0 : Int) (i : Int) = _ := sa
            rw [bind_some' sa', if_t (ap_ok (by simp only [List.length_nil]; omega)), w64_len0 i (by omega), bind_some' sb, if_t (ap_ok (by simp only [List.nil_append, List.map_nil, List.length_nil]; omega)), bind_some' sc, if_t (ap_ok (by simp only [List.nil_append, List.length_append, List.map_nil, List.length_nil]; omega)), if_t (ap_ok (by simp only [List.length_nil]; omega)), if_t (ap_ok (by simp only [List.nil_append, List.length_nil]; omega)), if_t (ap_ok (by simp only [List.nil_append, List.length_append, List.length_nil]; omega))]
            have z1 : ([] ++ sz (rowR (0, (i : Int), t.1)) ++ List.map p2 []) ++ sz (rowR ((i : Int), (l.length : Int), t.2)) = sz (rowR (0, (i : Int), t.1) ++ rowR ((i : Int), (l.length : Int), t.2)) := by simp [sz]
            have z2 : ([] ++ t.1 ++ []) ++ t.2 = hh (rowR (0, (i : Int), t.1) ++ rowR ((i : Int), (l.length : Int), t.2)) := by
              have q1 : hh (rowR (0, (i : Int), t.1)) = t.1 := a4
              have q3 : hh (rowR ((i : Int), (l.length : Int), t.2)) = t.2 := c4
              conv => lhs; rw [← q1, ← q3]
              simp [hh]
            rw [z1, z2, bind_some' o1]
          have hTr : rolodexref16_Tree l = some (tts l) := tree_eq FU l (fu_lt (by omega)) (by omega)
          rcases o4 with o4 | o4
          · rw [bind_some' hT, bind_some' hTr, bind_some' (cl_len o2 o3 (by omega) o4)]
          · exfalso
            apply hx
            have := root_row (l := l) (m := i) hil (by omega) a1' a2 (fun x hx => o4 x (List.mem_append_left _ hx))
            rw [show (rowR (0, (i : Int), t.1)).map (fun x => x.2.2) = t.1 from a4] at this
            rw [← this, ← g2]
            exact r0.2.2.symm
      · rw [Bool.not_eq_true] at hE
        rw [hE, if_t (by rfl), bind_some' awake16]
    · rw [if_t (by rw [decide_eq_false hf]; rfl), Option.bind_some, if_t rfl, bind_some' awake16]
end Go.Sl.Pu
