import Derived.Test.YtcikfilncagbgaaDoorPfr5
set_option linter.unusedSimpArgs false
set_option linter.unusedVariables false
set_option maxRecDepth 20000
/-! The frontier: joins, of the program and of the reference; ranges of the reference. -/
namespace Go.Sl.Pu
open Go.Sl Go.Sl.M Go.Sl.Fr
attribute [local irreducible] sha nd w64 p2
/-- A row's sizes and hashes. -/
def sz (L : List (P T_api_Hash)) : List Int := L.map fun x => p2 x.2.1
def hh (L : List (P T_api_Hash)) : List T_api_Hash := L.map fun x => x.2.2
theorem sz_len (L : List (P T_api_Hash)) : (sz L).length = L.length := by simp [sz]
theorem hh_len (L : List (P T_api_Hash)) : (hh L).length = L.length := by simp [hh]
theorem p2_two {k : Nat} (h : 2 ^ k ≤ 2147483647) : w64 ((2 : Int) * p2 k) = p2 (k + 1) := by
  unfold p2
  have := pow_step k
  have := two_pos k
  rw [w64_id (by omega) (by omega)]; omega
theorem fm_cons {H : Type} (x y : P H) (L : List (P H)) : fm (x :: y :: L) = if x.2.1 = y.2.1 ∧ 2 ^ (x.2.1 + 1) ∣ x.1 then some 0 else (fm (y :: L)).map (· + 1) := rfl
theorem w64_p1 (n : Nat) (h : n ≤ 4000000000) : w64 ((n : Int) + 1) = ((n + 1 : Nat) : Int) := by rw [w64_id (by omega) (by omega)]; rfl
theorem w64_p2 (n : Nat) (h : n ≤ 4000000000) : w64 ((n : Int) + 2) = ((n + 2 : Nat) : Int) := by rw [w64_id (by omega) (by omega)]; rfl
theorem p2_le {k n : Nat} (h : 2 ^ k ≤ n) : p2 k ≤ (n : Int) := by unfold p2; omega
theorem mrow {H : Type} {L : List (P H)} {a e i : Nat} {x : P H} (h : Fw a L e) (hx : L[i]? = some x) : x.1 + 2 ^ x.2.1 ≤ e := by
  have hm := List.mem_of_getElem? hx
  clear hx
  induction L generalizing a with
  | nil => cases hm
  | cons y L ih =>
    have hle := fw_le _ _ _ h.2.2
    rcases List.mem_cons.1 hm with rfl | hm
    · omega
    · exact ih h.2.2 hm
theorem first_key (S : List Int) (hS : S.length ≤ 2147483647) {e : Nat} (he : e ≤ 2147483647) : ∀ (B : List (P T_api_Hash)) (A : List (P T_api_Hash)) (p i fuel : Nat), Fw p B e → S = sz (A ++ B) → A.length = i → B.length < fuel →
    ∃ o, loopO (fun (s : Int × Int) => rolodexref15_First_L1 S s.1 s.2) fuel ((p : Int), (i : Int)) = some o ∧ (match fm B with | some j => o = .inr ((i + j : Nat) : Int) | none => ∃ s, o = .inl s) := by
  intro B
  induction B with
  | nil =>
    intro A p i fuel hf hS2 hi hfu
    obtain ⟨fuel, rfl⟩ : ∃ m, fuel = m + 1 := ⟨fuel - 1, by omega⟩
    have hl : S.length = i := by rw [hS2, sz_len]; simpa using hi
    exact ⟨_, loopO_brk (s' := ((p : Int), (i : Int))) (by
      simp only [rolodexref15_First_L1]
      rw [w64_id (by omega) (by omega), if_f (by rw [decide_eq_true_eq]; omega)]), _, rfl⟩
  | cons x B ih =>
    intro A p i fuel hf hS2 hi hfu
    obtain ⟨fuel, rfl⟩ : ∃ m, fuel = m + 1 := ⟨fuel - 1, by omega⟩
    simp only [List.length_cons] at hfu
    have hl : S.length = i + 1 + B.length := by rw [hS2, sz_len]; simp; omega
    cases B with
    | nil =>
      exact ⟨_, loopO_brk (s' := ((p : Int), (i : Int))) (by
        simp only [rolodexref15_First_L1]
        simp only [List.length_nil] at hl
        rw [w64_id (by omega) (by omega), if_f (by rw [decide_eq_true_eq]; omega)]), _, rfl⟩
    | cons y B =>
      simp only [List.length_cons] at hl
      have hx : x.1 = p := hf.1
      have hle := fw_le _ _ _ hf.2.2
      simp only [List.length_cons] at hle
      have e1 : S[i]'(by omega) = p2 x.2.1 := by
        have : S[i]? = some (p2 x.2.1) := by
          rw [hS2]; unfold sz
          rw [List.getElem?_map, List.getElem?_append_right (by omega), hi, Nat.sub_self]; rfl
        rw [List.getElem?_eq_getElem (by omega)] at this; exact Option.some.inj this
      have e2 : S[i + 1]'(by omega) = p2 y.2.1 := by
        have : S[i + 1]? = some (p2 y.2.1) := by
          rw [hS2]; unfold sz
          rw [List.getElem?_map, List.getElem?_append_right (by omega), hi, Nat.add_sub_cancel_left]; rfl
        rw [List.getElem?_eq_getElem (by omega)] at this; exact Option.some.inj this
      have g1 : lget S (i : Int) = some (p2 x.2.1) := by rw [lget_at rfl (by omega), e1]
      have hw : w64 ((i : Int) + 1) = ((i + 1 : Nat) : Int) := by rw [w64_id (by omega) (by omega)]; omega
      have g2 : lget S (w64 ((i : Int) + 1)) = some (p2 y.2.1) := by rw [hw, lget_at rfl (by omega), e2]
      have hk2 : 2 ^ x.2.1 ≤ 2147483647 := by omega
      have hk0 := two_pos x.2.1
      have h20 := p2_pos (x.2.1 + 1)
      by_cases hm : x.2.1 = y.2.1 ∧ 2 ^ (x.2.1 + 1) ∣ x.1
      · refine ⟨_, loopO_ret (r := (i : Int)) (by
          simp only [rolodexref15_First_L1]
          rw [if_t (by rw [hw, decide_eq_true_eq]; omega), bind_some' g1, bind_some' g2, if_t (by rw [decide_eq_true_eq]; exact p2_inj.2 hm.1), bind_some' g1, p2_two hk2, if_t (by omega), Option.bind_some, if_t (by
            rw [decide_eq_true_eq]; unfold p2; rw [tmod_dvd, ← hx]; exact hm.2)]), ?_⟩
        rw [fm_cons, if_pos hm]; simp
      · have hn : rolodexref15_First_L1 S (p : Int) (i : Int) = some (.next (((p + 2 ^ x.2.1 : Nat) : Int), ((i + 1 : Nat) : Int))) := by
          simp only [rolodexref15_First_L1]
          rw [if_t (by rw [hw, decide_eq_true_eq]; omega), bind_some' g1, bind_some' g2]
          have h2 : w64 ((p : Int) + p2 x.2.1) = ((p + 2 ^ x.2.1 : Nat) : Int) := by unfold p2; rw [w64_id (by omega) (by omega)]; omega
          by_cases hk : x.2.1 = y.2.1
          · rw [if_t (by rw [decide_eq_true_eq]; exact p2_inj.2 hk), bind_some' g1, p2_two hk2, if_t (by omega), Option.bind_some, if_f (by
              rw [decide_eq_true_eq]; unfold p2; rw [tmod_dvd, ← hx]; exact fun h => hm ⟨hk, h⟩), bind_some' g1, h2, hw]
          · rw [if_f (by rw [decide_eq_true_eq]; exact fun h => hk (p2_inj.1 h)), Option.bind_some, if_f (by decide), bind_some' g1, h2, hw]
        obtain ⟨o, ho, hq⟩ := ih (A ++ [x]) (p + 2 ^ x.2.1) (i + 1) fuel (by rw [← hx]; exact hf.2.2) (by rw [hS2]; simp) (by simp [hi]) (by simpa using hfu)
        refine ⟨o, (loopO_next (f := fun (s : Int × Int) => rolodexref15_First_L1 S s.1 s.2) (s := ((p : Int), (i : Int))) hn).trans ho, ?_⟩
        have hfm : fm (x :: y :: B) = (fm (y :: B)).map (· + 1) := by rw [fm_cons, if_neg hm]
        rw [hfm]
        cases hc : fm (y :: B) with
        | none => rw [hc] at hq; exact hq
        | some j =>
          rw [hc] at hq
          show o = .inr ((i + (j + 1) : Nat) : Int)
          rw [hq, show i + 1 + j = i + (j + 1) by omega]
def fmI {H : Type} (L : List (P H)) : Int := match fm L with | some j => (j : Int) | none => -1
theorem first_eq (L : List (P T_api_Hash)) (a e : Nat) (h : Fw a L e) (he : e ≤ 2147483647) : rolodexref15_First (a : Int) (sz L) = some (fmI L) := by
  have hl := fw_le _ _ _ h
  obtain ⟨o, ho, hq⟩ := first_key (sz L) (by rw [sz_len]; omega) he L [] a 0 FU h rfl rfl (fu_lt (by omega))
  have ho' : loopO (fun (s : Int × Int) => rolodexref15_First_L1 (sz L) s.1 s.2) FU ((a : Int), (0 : Int)) = some o := ho
  unfold rolodexref15_First fmI
  rw [bind_some' ho']
  cases hc : fm L with
  | none =>
    rw [hc] at hq
    obtain ⟨s, hs⟩ := hq
    rw [hs]
  | some j =>
    rw [hc] at hq
    rw [hq]; simp

theorem made_raw (SA SB : List Int) (HA HB : List T_api_Hash) (k1 k2 : Int) (h1 h2 : T_api_Hash) (n : Nat) (a1 : SA.length = n) (a2 : HA.length = n) (hb : n + SB.length ≤ 4000000000) (hb2 : n + HB.length ≤ 4000000000) :
    rolodexref15_Made (SA ++ k1 :: k2 :: SB) (HA ++ h1 :: h2 :: HB) (n : Int) = some (SA ++ (w64 ((2 : Int) * k1)) :: SB, HA ++ nd h1 h2 :: HB) := by
  have w2 : w64 ((n : Int) + 2) = ((n + 2 : Nat) : Int) := w64_p2 _ (by omega)
  have w1 : w64 ((n : Int) + 1) = ((n + 1 : Nat) : Int) := w64_p1 _ (by omega)
  have s1 : lslice (SA ++ k1 :: k2 :: SB) 0 (n : Int) = some SA := by
    rw [lslice_at (lo := (0 : Int)) (a := 0) (b := n) rfl rfl (Nat.zero_le _) (by rw [List.length_append, a1]; exact Nat.le_add_right _ _), ← a1, List.take_left, List.drop_zero]
  have s2 : lget (SA ++ k1 :: k2 :: SB) (n : Int) = some k1 := by
    rw [lget_at rfl (by rw [List.length_append, a1]; simp)]; simp [a1]
  have s3 : lslice (SA ++ k1 :: k2 :: SB) (w64 ((n : Int) + 2)) ((SA ++ k1 :: k2 :: SB).length : Int) = some SB := by
    rw [w2, lslice_at rfl rfl (by rw [List.length_append, a1]; simp) (Nat.le_refl _), List.take_length, ← List.drop_drop, ← a1, List.drop_left]; rfl
  have t1 : lslice (HA ++ h1 :: h2 :: HB) 0 (n : Int) = some HA := by
    rw [lslice_at (lo := (0 : Int)) (a := 0) (b := n) rfl rfl (Nat.zero_le _) (by rw [List.length_append, a2]; exact Nat.le_add_right _ _), ← a2, List.take_left, List.drop_zero]
  have t2 : lget (HA ++ h1 :: h2 :: HB) (n : Int) = some h1 := by
    rw [lget_at rfl (by rw [List.length_append, a2]; simp)]; simp [a2]
  have t3 : lget (HA ++ h1 :: h2 :: HB) (w64 ((n : Int) + 1)) = some h2 := by
    rw [w1, lget_at rfl (by rw [List.length_append, a2]; simp), List.getElem_append_right (by omega)]; simp [a2]
  have t4 : lslice (HA ++ h1 :: h2 :: HB) (w64 ((n : Int) + 2)) ((HA ++ h1 :: h2 :: HB).length : Int) = some HB := by
    rw [w2, lslice_at rfl rfl (by rw [List.length_append, a2]; simp) (Nat.le_refl _), List.take_length, ← List.drop_drop, ← a2, List.drop_left]; rfl
  clear w1 w2
  unfold rolodexref15_Made
  rw [bind_some' s1, if_t (ap_ok (by simp; omega)), bind_some' s2, if_t (ap_ok (by simp; omega)), bind_some' s3, if_t (ap_ok (by simp; omega)), bind_some' t1, if_t (ap_ok (by simp; omega)), bind_some' t2, bind_some' t3, bind_some' (rnode_eq _ _), if_t (ap_ok (by simp; omega)), bind_some' t4, if_t (ap_ok (by simp; omega))]
  simp
theorem made_eq {A B : List (P T_api_Hash)} {y x : P T_api_Hash} {a e : Nat} (hf : Fw a (A ++ y :: x :: B) e) (he : e ≤ 2147483647) :
    rolodexref15_Made (sz (A ++ y :: x :: B)) (hh (A ++ y :: x :: B)) (A.length : Int) = some (sz (A ++ (y.1, y.2.1 + 1, nd y.2.2 x.2.2) :: B), hh (A ++ (y.1, y.2.1 + 1, nd y.2.2 x.2.2) :: B)) := by
  have hl := fw_le _ _ _ hf
  simp only [List.length_append, List.length_cons] at hl
  have e1 : sz (A ++ y :: x :: B) = sz A ++ p2 y.2.1 :: p2 x.2.1 :: sz B := by simp [sz]
  have e2 : hh (A ++ y :: x :: B) = hh A ++ y.2.2 :: x.2.2 :: hh B := by simp [hh]
  have e3 : sz (A ++ (y.1, y.2.1 + 1, nd y.2.2 x.2.2) :: B) = sz A ++ p2 (y.2.1 + 1) :: sz B := by simp [sz]
  have e4 : hh (A ++ (y.1, y.2.1 + 1, nd y.2.2 x.2.2) :: B) = hh A ++ nd y.2.2 x.2.2 :: hh B := by simp [hh]
  have hk : w64 ((2 : Int) * p2 y.2.1) = p2 (y.2.1 + 1) := by
    have hy := mrow (i := A.length) (x := y) hf (by rw [List.getElem?_append_right (Nat.le_refl _), Nat.sub_self]; rfl)
    exact p2_two (Nat.le_trans (Nat.le_add_left _ _) (Nat.le_trans hy he))
  rw [e1, e2, e3, e4, made_raw _ _ _ _ _ _ _ _ A.length (sz_len A) (hh_len A) (by rw [sz_len]; omega) (by rw [hh_len]; omega), hk]
/-! ## Join, of the reference -/
theorem rjoin_loop (pa : T_rolodexref15_Range) {a e : Nat} (he : e ≤ 2147483647) (hpa : pa.1 = (a : Int)) : ∀ (n : Nat) (L : List (P T_api_Hash)) (i fuel : Nat), L.length ≤ n → Fw a L e → n + 2 < fuel →
    ∃ i' s', loopS (fun (s : Int × (List T_api_Hash) × (List Int)) => rolodexref15_Join_L1 pa s.1 s.2.1 s.2.2) fuel ((i : Int), hh L, sz L) = some (i', hof (puts nd [] L), s') := by
  intro n
  induction n with
  | zero =>
    intro L i fuel hl hf hfu
    obtain ⟨fuel, rfl⟩ : ∃ m, fuel = m + 2 := ⟨fuel - 2, by omega⟩
    have : L = [] := List.length_eq_zero_iff.1 (by omega)
    subst this
    refine ⟨-1, [], ?_⟩
    rw [loopS_next (s' := ((-1 : Int), hh [], sz [])) (by
      simp only [rolodexref15_Join_L1]
      rw [if_t (by rw [decide_eq_true_eq]; omega), hpa, bind_some' (first_eq _ a e hf he), show fmI ([] : List (P T_api_Hash)) = -1 from rfl, if_f (by simp)]), loopS_brk (s' := ((-1 : Int), hh [], sz [])) (by
      simp only [rolodexref15_Join_L1]
      rw [if_f (by simp)])]
    rfl
  | succ n ih =>
    intro L i fuel hl hf hfu
    obtain ⟨fuel, rfl⟩ : ∃ m, fuel = m + 2 := ⟨fuel - 2, by omega⟩
    cases hc : fm L with
    | none =>
      have hfm : fmI L = -1 := by unfold fmI; rw [hc]
      refine ⟨-1, sz L, ?_⟩
      rw [loopS_next (s' := ((-1 : Int), hh L, sz L)) (by
        simp only [rolodexref15_Join_L1]
        rw [if_t (by rw [decide_eq_true_eq]; omega), hpa, bind_some' (first_eq _ a e hf he), hfm, if_f (by simp)]), loopS_brk (s' := ((-1 : Int), hh L, sz L)) (by
        simp only [rolodexref15_Join_L1]
        rw [if_f (by simp)])]
      rw [puts_of_nf nd L [] (fm_none L hc) (fun y hy => by cases hy)]
      simp [hof, hh]
    | some j =>
      obtain ⟨A, y, x, B, hL, hA, hk, hd⟩ := fm_some L j hc
      subst hL
      have hfm : fmI (A ++ y :: x :: B) = (A.length : Int) := by unfold fmI; rw [hc, hA]
      have hf' := fw_merge (h := nd y.2.2 x.2.2) hf hk hd
      obtain ⟨i', s', hh'⟩ := ih _ A.length (fuel + 1) (by simp at hl ⊢; omega) hf' (by omega)
      refine ⟨i', s', ?_⟩
      rw [loopS_next (s' := ((A.length : Int), hh (A ++ (y.1, y.2.1 + 1, nd y.2.2 x.2.2) :: B), sz (A ++ (y.1, y.2.1 + 1, nd y.2.2 x.2.2) :: B))) (by
        simp only [rolodexref15_Join_L1]
        rw [if_t (by rw [decide_eq_true_eq]; omega), hpa, bind_some' (first_eq _ a e hf he), hfm, if_t (by rw [decide_eq_true_eq]; omega), bind_some' (made_eq hf he)]), hh', puts_merge nd (a := a) A B y x [] rfl hf hk hd]
/-- A range's row. -/
noncomputable def rowR (r : T_frontier_Range) : List (P T_api_Hash) := lay r.1.toNat (segs r.1.toNat r.2.1.toNat) r.2.2
noncomputable def joinS (a b : T_frontier_Range) : T_frontier_Range × Int :=
  if formed a = true ∧ formed b = true ∧ a.2.1 = b.1 then ((a.1, b.2.1, hof (puts nd [] (rowR a ++ rowR b))), 0) else ((0, 0, []), 1)
theorem row_fw {r : T_frontier_Range} (h : formed r = true) : Fw r.1.toNat (rowR r) r.2.1.toNat ∧ NfF (rowR r) ∧ sz (rowR r) = (segs r.1.toNat r.2.1.toNat).map p2 ∧ hh (rowR r) = r.2.2 := by
  obtain ⟨a, e, h1, h2, h3, h4, h5⟩ := formed_iff.1 h
  unfold rowR
  rw [h1, h2]
  simp only [Int.toNat_natCast]
  refine ⟨lay_fw _ _ _ _ (segs_spec h3) h5, lay_nf _ _ _ _ (segs_spec h3) h5, ?_, lay_h _ _ _ h5⟩
  have := congrArg (List.map p2) (lay_k _ _ a h5)
  rw [List.map_map] at this
  exact this
theorem formed_le {r : T_frontier_Range} (h : formed r = true) : 0 ≤ r.1 ∧ r.1 ≤ r.2.1 ∧ r.2.1 ≤ 2147483647 ∧ r.2.2.length ≤ 62 := by
  obtain ⟨a, e, h1, h2, h3, h4, h5⟩ := formed_iff.1 h
  have := seg62 (segs_spec h3) h4
  exact ⟨by omega, by omega, by omega, by omega⟩
theorem rjoin_eq (a b : T_rolodexref15_Range) : rolodexref15_Join a b = some (joinS a b) := by
  unfold rolodexref15_Join joinS
  rw [bind_some' (rformed_eq a)]
  by_cases ha : formed a = true
  · rw [ha, if_f (by decide), bind_some' (rformed_eq b)]
    by_cases hb : formed b = true
    · rw [hb, Option.bind_some, if_f (by decide), Option.bind_some]
      by_cases hab : a.2.1 = b.1
      · rw [if_f (by simp [hab]), if_pos (show true = true ∧ true = true ∧ a.2.1 = b.1 from ⟨rfl, rfl, hab⟩)]
        obtain ⟨a1, a2, a3, a4⟩ := row_fw ha
        obtain ⟨b1, b2, b3, b4⟩ := row_fw hb
        obtain ⟨la1, la2, la3, la4⟩ := formed_le ha
        obtain ⟨lb1, lb2, lb3, lb4⟩ := formed_le hb
        have sa := rsegments_eq a.1.toNat a.2.1.toNat (by omega) (by omega)
        have sb := rsegments_eq b.1.toNat b.2.1.toNat (by omega) (by omega)
        rw [show ((a.1.toNat : Nat) : Int) = a.1 by omega, show ((a.2.1.toNat : Nat) : Int) = a.2.1 by omega, ← a3] at sa
        rw [show ((b.1.toNat : Nat) : Int) = b.1 by omega, show ((b.2.1.toNat : Nat) : Int) = b.2.1 by omega, ← b3] at sb
        have hsz : (sz (rowR a)).length ≤ 62 := by rw [sz_len, ← hh_len, a4]; exact la4
        have hsz' : (sz (rowR b)).length ≤ 62 := by rw [sz_len, ← hh_len, b4]; exact lb4
        have hf : Fw a.1.toNat (rowR a ++ rowR b) b.2.1.toNat := fw_app _ _ _ _ _ a1 (by rw [hab]; exact b1)
        have hl := fw_le _ _ _ hf
        obtain ⟨i', s', hloop⟩ := rjoin_loop a (a := a.1.toNat) (e := b.2.1.toNat) (by omega) (by omega) _ (rowR a ++ rowR b) 0 FU (Nat.le_refl _) hf (fu_lt (by omega))
        have e1 : hh (rowR a ++ rowR b) = ([] ++ a.2.2) ++ b.2.2 := by rw [← a4, ← b4]; simp [hh]
        have e2 : sz (rowR a ++ rowR b) = ([] ++ sz (rowR a)) ++ sz (rowR b) := by simp [sz]
        rw [e1, e2] at hloop
        have hloop' : loopS (fun (s : Int × (List T_api_Hash) × (List Int)) => rolodexref15_Join_L1 a s.1 s.2.1 s.2.2) FU ((0 : Int), ([] ++ a.2.2) ++ b.2.2, ([] ++ sz (rowR a)) ++ sz (rowR b)) = _ := hloop
        rw [bind_some' sa, if_t (ap_ok (by simp; omega)), bind_some' sb, if_t (ap_ok (by simp; omega)), if_t (ap_ok (by simp; omega)), if_t (ap_ok (by simp; omega)), bind_some' hloop', Option.bind_some]
      · rw [if_t (by simp [hab]), if_neg (show ¬ (true = true ∧ true = true ∧ a.2.1 = b.1) from fun h => hab h.2.2)]
    · rw [Bool.not_eq_true] at hb
      rw [hb, Option.bind_some, if_t (by rfl), Option.bind_some, if_t rfl, if_neg (fun h => by cases h.2.1)]
  · rw [Bool.not_eq_true] at ha
    rw [ha, if_t (by rfl), Option.bind_some, if_t rfl, Option.bind_some, if_t rfl, if_neg (fun h => by cases h.1)]
/-! ## Join, of the program -/
theorem lay_get {p : Nat} : ∀ (ks : List Nat) (hs : List T_api_Hash), ks.length = hs.length → lay p ks hs = lay p ks hs := fun _ _ _ => rfl
theorem join_loop2 (r : T_frontier_Range) (S : List Int) (hS : S.length = r.2.2.length) (hl : r.2.2.length ≤ 62) {a0 e : Nat} (he : e ≤ 2147483647) : ∀ (L : List (P T_api_Hash)) (p i fuel : Nat) (st : List (P T_api_Hash)), Fw p L e → S.drop i = sz L → r.2.2.drop i = hh L → i + L.length = S.length → Ct a0 st p → L.length < fuel →
    loopS (fun (s : Int × Int × (List T_frontier_part)) => frontier_Join_L2 S r s.1 s.2.1 s.2.2) fuel ((p : Int), (i : Int), rv st) = some ((e : Int), (S.length : Int), rv (puts nd st L)) := by
  intro L
  induction L with
  | nil =>
    intro p i fuel st hf h1 h2 hi hc hfu
    obtain ⟨fuel, rfl⟩ : ∃ m, fuel = m + 1 := ⟨fuel - 1, by omega⟩
    have hp : p = e := hf
    simp only [List.length_nil, Nat.add_zero] at hi
    rw [loopS_brk (s' := ((p : Int), (i : Int), rv st)) (by
      simp only [frontier_Join_L2]
      rw [if_f (by rw [decide_eq_true_eq]; omega)]), hp, hi]
    rfl
  | cons x L ih =>
    intro p i fuel st hf h1 h2 hi hc hfu
    obtain ⟨fuel, rfl⟩ : ∃ m, fuel = m + 1 := ⟨fuel - 1, by omega⟩
    simp only [List.length_cons] at hfu hi
    have hx : x.1 = p := hf.1
    have hle := fw_le _ _ _ hf.2.2
    have hi1 : i < S.length := by omega
    rw [List.drop_eq_getElem_cons hi1] at h1
    rw [List.drop_eq_getElem_cons (by omega)] at h2
    injection h1 with h1 h1'
    injection h2 with h2 h2'
    have hpart : (((p : Int), p2 x.2.1, x.2.2) : T_frontier_part) = mp x := by unfold mp; rw [hx]
    have hk0 := two_pos x.2.1
    have hput := put_eq (a := a0) st x (by rw [hx]; exact hc) (by omega)
    have hpush := push_ct nd st x (by rw [hx]; exact hc) hf.2.1
    rw [loopS_next (s' := (((x.1 + 2 ^ x.2.1 : Nat) : Int), ((i + 1 : Nat) : Int), rv (push nd st x))) (by
      simp only [frontier_Join_L2]
      rw [if_t (by rw [decide_eq_true_eq]; omega), bind_some' (lget_at rfl hi1), bind_some' (lget_at rfl (by omega)), Option.bind_some, h1, h2, hpart, bind_some' hput, w64_id (n := (i : Int) + 1) (by omega) (by omega)]
      rw [show w64 ((p : Int) + p2 x.2.1) = ((x.1 + 2 ^ x.2.1 : Nat) : Int) by unfold p2; rw [w64_id (by omega) (by omega)]; omega]; rfl), ih (x.1 + 2 ^ x.2.1) (i + 1) fuel (push nd st x) hf.2.2 h1' h2' (by omega) hpush (by omega)]
    rfl
theorem join_one {r : T_frontier_Range} (h : formed r = true) {a0 : Nat} (st : List (P T_api_Hash)) (hc : Ct a0 st r.1.toNat) : ∃ S, frontier_Segments r.1 r.2.1 = some S ∧ loopS (fun (s : Int × Int × (List T_frontier_part)) => frontier_Join_L2 S r s.1 s.2.1 s.2.2) FU (r.1, (0 : Int), rv st) = some (r.2.1, (S.length : Int), rv (puts nd st (rowR r))) := by
  obtain ⟨a1, a2, a3, a4⟩ := row_fw h
  obtain ⟨la1, la2, la3, la4⟩ := formed_le h
  have sa := segments_eq r.1.toNat r.2.1.toNat (by omega) (by omega)
  rw [show ((r.1.toNat : Nat) : Int) = r.1 by omega, show ((r.2.1.toNat : Nat) : Int) = r.2.1 by omega, ← a3] at sa
  refine ⟨_, sa, ?_⟩
  have hl : (rowR r).length = r.2.2.length := by rw [← a4, hh_len]
  have := join_loop2 r (sz (rowR r)) (by rw [sz_len, hl]) la4 (a0 := a0) (e := r.2.1.toNat) (by omega) (rowR r) r.1.toNat 0 FU st a1 rfl (by rw [List.drop_zero, a4]) (by rw [sz_len]; omega) hc (fu_lt (by omega))
  rw [show ((r.1.toNat : Nat) : Int) = r.1 by omega, show ((r.2.1.toNat : Nat) : Int) = r.2.1 by omega] at this
  exact this
theorem join_eq (a b : T_frontier_Range) : frontier_Join a b = some (joinS a b) := by
  unfold frontier_Join joinS
  rw [bind_some' (formed_eq a)]
  by_cases ha : formed a = true
  · rw [ha, if_f (by decide), bind_some' (formed_eq b)]
    by_cases hb : formed b = true
    · rw [hb, Option.bind_some, if_f (by decide), Option.bind_some]
      by_cases hab : a.2.1 = b.1
      · rw [if_f (by simp [hab]), if_pos (show true = true ∧ true = true ∧ a.2.1 = b.1 from ⟨rfl, rfl, hab⟩)]
        obtain ⟨a1, a2, a3, a4⟩ := row_fw ha
        obtain ⟨b1, b2, b3, b4⟩ := row_fw hb
        obtain ⟨la1, la2, la3, la4⟩ := formed_le ha
        obtain ⟨lb1, lb2, lb3, lb4⟩ := formed_le hb
        obtain ⟨S, s1, s2⟩ := join_one ha (a0 := a.1.toNat) [] rfl
        have hc := puts_ct nd (rowR a) [] a.1.toNat _ rfl a1
        obtain ⟨T, t1, t2⟩ := join_one hb (a0 := a.1.toNat) (puts nd [] (rowR a)) (by rw [← hab]; exact hc)
        have hc2 := puts_ct nd (rowR b) _ b.1.toNat _ (by rw [← hab]; exact hc) b1
        have hl := ct_len _ _ hc2
        have hs1 : loopS (fun (s : Int × Int × (List T_frontier_part)) => frontier_Join_L2 S a s.1 s.2.1 s.2.2) FU (a.1, (0 : Int), ([] : List T_frontier_part)) = _ := s2
        have hloop : loopS (fun (s : Int × (List T_frontier_part)) => frontier_Join_L1 a b s.1 s.2) FU ((0 : Int), ([] : List T_frontier_part)) = some ((2 : Int), rv (puts nd (puts nd [] (rowR a)) (rowR b))) := by
          obtain ⟨fuel, hfu⟩ : ∃ m, FU = m + 3 := ⟨FU - 3, by unfold FU; rfl⟩
          rw [show loopS (fun (s : Int × (List T_frontier_part)) => frontier_Join_L1 a b s.1 s.2) FU = loopS (fun (s : Int × (List T_frontier_part)) => frontier_Join_L1 a b s.1 s.2) (fuel + 3) by rw [hfu]]
          rw [loopS_next (s' := ((1 : Int), rv (puts nd [] (rowR a)))) (by
            simp only [frontier_Join_L1]
            rw [if_t (by simp), bind_some' (lget_at (i := (0 : Int)) (k := 0) rfl (by simp))]
            show Option.bind (frontier_Segments a.1 a.2.1) _ = _
            rw [bind_some' s1]
            show Option.bind (loopS (fun (s : Int × Int × (List T_frontier_part)) => frontier_Join_L2 S a s.1 s.2.1 s.2.2) FU (a.1, (0 : Int), ([] : List T_frontier_part))) _ = _
            rw [bind_some' hs1, w64_id (by omega) (by omega)]; rfl), loopS_next (s' := ((2 : Int), rv (puts nd (puts nd [] (rowR a)) (rowR b)))) (by
            simp only [frontier_Join_L1]
            rw [if_t (by simp), bind_some' (lget_at (i := (1 : Int)) (k := 1) rfl (by simp))]
            show Option.bind (frontier_Segments b.1 b.2.1) _ = _
            rw [bind_some' t1]
            show Option.bind (loopS (fun (s : Int × Int × (List T_frontier_part)) => frontier_Join_L2 T b s.1 s.2.1 s.2.2) FU (b.1, (0 : Int), rv (puts nd [] (rowR a)))) _ = _
            rw [bind_some' t2, w64_id (by omega) (by omega)]; rfl), loopS_brk (s' := ((2 : Int), rv (puts nd (puts nd [] (rowR a)) (rowR b)))) (by
            simp only [frontier_Join_L1]
            rw [if_f (by simp)])]
        rw [bind_some' hloop, bind_some' (hashes_rv _ (by omega)), Option.bind_some]
        simp [puts, List.foldl_append]
      · rw [if_t (by simp [hab]), if_neg (show ¬ (true = true ∧ true = true ∧ a.2.1 = b.1) from fun h => hab h.2.2)]
    · rw [Bool.not_eq_true] at hb
      rw [hb, Option.bind_some, if_t (by rfl), Option.bind_some, if_t rfl, if_neg (fun h => by cases h.2.1)]
  · rw [Bool.not_eq_true] at ha
    rw [ha, if_t (by rfl), Option.bind_some, if_t rfl, Option.bind_some, if_t rfl, if_neg (fun h => by cases h.1)]
/-! ## Of, of the reference -/
theorem rof_loop (a : Nat) (l : List T_api_Hash) (S : List Int) (hS : S.length ≤ 62) (hl : l.length ≤ 2147483647) : ∀ (ks : List Nat) (p i fuel : Nat) (acc : List T_api_Hash), Seg p (a + l.length) ks → a ≤ p → S.drop i = ks.map p2 → i + ks.length = S.length → acc.length = i → ks.length < fuel →
    ∃ u v, loopS (fun (s : (List T_api_Hash) × Int × (List T_api_Hash)) => rolodexref15_Of_L1 S s.1 s.2.1 s.2.2) fuel (l.drop (p - a), (i : Int), acc) = some (u, v, acc ++ vl (vt a l) p ks) := by
  intro ks
  induction ks with
  | nil =>
    intro p i fuel acc hs hp h1 hi ha hfu
    obtain ⟨fuel, rfl⟩ : ∃ m, fuel = m + 1 := ⟨fuel - 1, by omega⟩
    simp only [List.length_nil] at hi
    exact ⟨l.drop (p - a), (i : Int), by
      rw [loopS_brk (s' := (l.drop (p - a), (i : Int), acc)) (by
        simp only [rolodexref15_Of_L1]
        rw [if_f (by rw [decide_eq_true_eq]; omega)])]
      simp [vl]⟩
  | cons k ks ih =>
    intro p i fuel acc hs hp h1 hi ha hfu
    obtain ⟨fuel, rfl⟩ : ∃ m, fuel = m + 1 := ⟨fuel - 1, by omega⟩
    simp only [List.length_cons] at hfu hi
    have hi1 : i < S.length := by omega
    rw [List.drop_eq_getElem_cons hi1] at h1
    injection h1 with h1 h1'
    have hg : lget S (i : Int) = some (p2 k) := by rw [lget_at rfl hi1, h1]
    have hsz := hs.2.1.1
    have hle := seg_le _ _ _ hs.2.2
    have hk0 := two_pos k
    have hsl : 2 ^ k ≤ (l.drop (p - a)).length := by rw [List.length_drop]; omega
    obtain ⟨u, v, huv⟩ := ih (p + 2 ^ k) (i + 1) fuel (acc ++ [vt a l p k]) hs.2.2 (by omega) h1' (by omega) (by simp [ha]) (by omega)
    refine ⟨u, v, ?_⟩
    rw [loopS_next (s' := (l.drop (p + 2 ^ k - a), ((i + 1 : Nat) : Int), acc ++ [vt a l p k])) (by
      simp only [rolodexref15_Of_L1]
      rw [if_t (by rw [decide_eq_true_eq]; omega), bind_some' hg, show p2 k = ((2 ^ k : Nat) : Int) by unfold p2; rfl, bind_some' (lslice_at (lo := (0 : Int)) (a := 0) (b := 2 ^ k) rfl rfl (by omega) hsl)]
      rw [List.drop_zero, bind_some' (rlist_eq _ (by rw [List.length_take]; omega)), if_t (ap_ok (by simp; omega)), bind_some' hg, show p2 k = ((2 ^ k : Nat) : Int) by unfold p2; rfl, bind_some' (lslice_at (a := 2 ^ k) (b := (l.drop (p - a)).length) rfl rfl hsl (Nat.le_refl _)), List.take_length, List.drop_drop, w64_id (n := (i : Int) + 1) (by omega) (by omega), show p - a + 2 ^ k = p + 2 ^ k - a by omega]
      rfl), huv]
    simp [vl]
theorem rof_eq (l : List T_api_Hash) (a : Nat) (h : a + l.length ≤ 2147483647) : rolodexref15_Of (a : Int) l = some (((a : Int), ((a + l.length : Nat) : Int), hsh a l), (0 : Int)) := by
  unfold rolodexref15_Of
  rw [if_f (by rw [decide_eq_true_eq]; omega), Option.bind_some, if_f (by rw [decide_eq_true_eq]; omega), w64_id (n := 2147483647 - (a : Int)) (by omega) (by omega), Option.bind_some, if_f (by rw [decide_eq_true_eq]; omega)]
  have hw : w64 ((a : Int) + (l.length : Int)) = ((a + l.length : Nat) : Int) := by rw [w64_id (by omega) (by omega)]; omega
  have hs := segs_spec (show a ≤ a + l.length by omega)
  have h62 := seg62 hs h
  obtain ⟨u, v, huv⟩ := rof_loop a l ((segs a (a + l.length)).map p2) (by rw [List.length_map]; exact h62) (by omega) (segs a (a + l.length)) a 0 FU [] hs (Nat.le_refl _) rfl (by simp) rfl (fu_lt (by omega))
  rw [Nat.sub_self, List.drop_zero] at huv
  have huv' : loopS (fun (s : (List T_api_Hash) × Int × (List T_api_Hash)) => rolodexref15_Of_L1 ((segs a (a + l.length)).map p2) s.1 s.2.1 s.2.2) FU (l, (0 : Int), ([] : List T_api_Hash)) = _ := huv
  rw [hw, bind_some' (rsegments_eq a (a + l.length) (by omega) h), bind_some' huv', Option.bind_some, List.nil_append, ← hsh_vl]
theorem rof_no (l : List T_api_Hash) (a : Int) (hl : l.length ≤ 4000000000) (h : ¬ (0 ≤ a ∧ a + l.length ≤ 2147483647)) : rolodexref15_Of a l = some ((0, 0, []), (1 : Int)) := by
  unfold rolodexref15_Of
  by_cases h1 : a < 0
  · rw [if_t (decide_eq_true h1), Option.bind_some, if_t rfl, Option.bind_some, if_t rfl]
  · rw [if_f (by rw [decide_eq_true_eq]; exact h1), Option.bind_some]
    by_cases h2 : 2147483647 < a
    · rw [if_t (decide_eq_true h2), Option.bind_some, if_t rfl]
    · rw [if_f (by rw [decide_eq_true_eq]; exact h2), w64_id (n := 2147483647 - a) (by omega) (by omega), Option.bind_some, if_t (by rw [decide_eq_true_eq]; omega)]
/-! ## Comparing -/
theorem hsame_eq (a b : List T_api_Hash) (ha : a.length ≤ 4294967296) : rolodexref15_Same a b = some (decide (a = b)) := by
  unfold rolodexref15_Same
  by_cases hl : a.length = b.length
  · rw [if_f (by simp [hl])]
    have h1 := eqscan (f := fun (s : Int) => rolodexref15_Same_L1 a b s) a b hl (by omega) (fun i h1 h2 => by
      simp only [rolodexref15_Same_L1]
      rw [if_t (by rw [decide_eq_true_eq]; omega), bind_some' (lget_at rfl h1), bind_some' (lget_at rfl h2), w64_id (by omega) (by omega)]
      by_cases he : a[i] = b[i]
      · rw [if_f (by simp [he]), if_pos he]
      · rw [if_t (by simp [he]), if_neg he]) (by
      simp only [rolodexref15_Same_L1]
      rw [if_f (by rw [decide_eq_true_eq]; omega)])
    rw [bind_some' h1]
    by_cases hab : a = b
    · rw [if_pos hab, decide_eq_true hab]
    · rw [if_neg hab, decide_eq_false hab]
  · rw [if_t (by simp; omega), decide_eq_false (fun h => hl (by rw [h]))]
theorem ranges_eq (a b : T_rolodexref15_Range) (ha : a.2.2.length ≤ 4294967296) : rolodexref15_Ranges a b = some (decide (a = b)) := by
  unfold rolodexref15_Ranges
  obtain ⟨a1, a2, a3⟩ := a
  obtain ⟨b1, b2, b3⟩ := b
  simp only [] at ha ⊢
  by_cases h1 : a1 = b1
  · by_cases h2 : a2 = b2
    · rw [if_t (decide_eq_true h1), decide_eq_true h2, Option.bind_some, if_t rfl, bind_some' (hsame_eq _ _ ha), Option.bind_some]
      simp [h1, h2]
    · rw [if_t (decide_eq_true h1), decide_eq_false h2, Option.bind_some, if_f (by decide), Option.bind_some]
      simp [h2]
  · rw [if_f (by simp [h1]), Option.bind_some, if_f (by decide), Option.bind_some]
    simp [h1]
end Go.Sl.Pu
