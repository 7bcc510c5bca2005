import Derived.Test.YtcikfilncagbgaaDoorPfr3
set_option linter.unusedSimpArgs false
set_option linter.unusedVariables false
set_option maxRecDepth 20000
/-! The frontier: the tree over a list of leaves, ranges, joins and roots. -/
namespace Go.Sl.Fr
variable {H : Type}
/-- The values along a row of exponents. -/
def vl (V : Nat → Nat → H) : Nat → List Nat → List H
  | _, [] => []
  | a, k :: ks => V a k :: vl V (a + 2 ^ k) ks
theorem fw_vl {V : Nat → Nat → H} : ∀ (L : List (P H)) (a e : Nat), Fw a L e → Hs V L → L.map (fun x => x.2.2) = vl V a (L.map (fun x => x.2.1))
  | [], a, e, h, hs => rfl
  | x :: L, a, e, h, hs => by
    have h1 := fw_vl L _ e h.2.2 (fun z hz => hs z (List.mem_cons_of_mem _ hz))
    have h2 := hs x (List.mem_cons_self ..)
    have h3 := h.1
    show x.2.2 :: _ = V a x.2.1 :: _
    rw [h1, h2, h3]
theorem canon_uniq {V : Nat → Nat → H} {a e : Nat} {L L' : List (P H)} (h1 : Fw a L e) (h2 : NfF L) (h3 : Hs V L) (h1' : Fw a L' e) (h2' : NfF L') (h3' : Hs V L') : L = L' := by
  have hk := seg_uniq _ _ _ _ (seg_of_nf L a e h1 h2) (seg_of_nf L' a e h1' h2')
  have e1 := lay_eq L a e h1
  have e2 := lay_eq L' a e h1'
  rw [fw_vl L a e h1 h3, hk] at e1
  rw [fw_vl L' a e h1' h3'] at e2
  exact e1.symm.trans e2
theorem hs_rev {V : Nat → Nat → H} {st : List (P H)} (h : Hs V st) : Hs V st.reverse := fun x hx => h x (List.mem_reverse.1 hx)
theorem hs_app {V : Nat → Nat → H} {L M : List (P H)} (h : Hs V L) (h' : Hs V M) : Hs V (L ++ M) := fun x hx => (List.mem_append.1 hx).elim (h x) (h' x)
def fold1 (n : H → H → H) (z : H) : List H → H
  | [] => z
  | [x] => x
  | x :: y :: l => n x (fold1 n z (y :: l))
end Go.Sl.Fr
namespace Go.Sl.Pu
open Go.Sl Go.Sl.M Go.Sl.Fr
attribute [local irreducible] sha nd
/-- Where a list of so many is halved. -/
def half (n : Nat) : Nat := 2 ^ Nat.log2 (n - 1)
theorem half_lt {n : Nat} (h : 2 ≤ n) : half n < n := by
  have := Nat.log2_self_le (n := n - 1) (by omega)
  unfold half; omega
theorem half_pos (n : Nat) : 0 < half n := two_pos _
theorem half_eq {n k : Nat} (h1 : 2 ^ k < n) (h2 : n ≤ 2 ^ (k + 1)) : half n = 2 ^ k := by
  unfold half
  have hp := two_pos k
  have : Nat.log2 (n - 1) = k := (Nat.log2_eq_iff (by omega)).2 ⟨by omega, by omega⟩
  rw [this]
theorem half_spec {n : Nat} (h : 2 ≤ n) : ∃ k, half n = 2 ^ k ∧ 2 ^ k < n ∧ n ≤ 2 ^ (k + 1) := by
  refine ⟨Nat.log2 (n - 1), rfl, half_lt h, ?_⟩
  have := Nat.lt_log2_self (n := n - 1)
  omega
/-- The tree over a list of leaves. -/
def mth (l : List T_api_Hash) : T_api_Hash :=
  if h : 2 ≤ l.length then nd (mth (l.take (half l.length))) (mth (l.drop (half l.length)))
  else match l with
    | [] => sha []
    | x :: _ => x
termination_by l.length
decreasing_by
  · have := half_lt h; simp; omega
  · have := half_pos l.length; simp; omega
theorem mth_nil : mth [] = sha [] := by rw [mth]; simp
theorem mth_one (x : T_api_Hash) : mth [x] = x := by rw [mth]; simp
theorem mth_two {l : List T_api_Hash} {k : Nat} (h1 : 2 ^ k < l.length) (h2 : l.length ≤ 2 ^ (k + 1)) : mth l = nd (mth (l.take (2 ^ k))) (mth (l.drop (2 ^ k))) := by
  have hp := two_pos k
  conv => lhs; rw [mth]
  rw [dif_pos (by omega), half_eq h1 h2]
theorem halfloop {f : Int → Option (LR Int Empty)} (n : Nat) (hn : n ≤ 4000000000) (h2 : 2 ≤ n) (hf : ∀ y1, f y1 = if (decide (y1 < (w64 ((n : Int) - y1)))) = true then some (.next (w64 ((2 : Int) * y1))) else some (.brk y1)) :
    loopS f FU (1 : Int) = some ((half n : Nat) : Int) := by
  obtain ⟨k, hk, hlt, hle⟩ := half_spec h2
  have key : ∀ (d j : Nat), j + d = k → ∀ fuel, d < fuel → loopS f fuel (p2 j) = some (p2 k) := by
    intro d
    induction d with
    | zero =>
      intro j hj fuel hfu
      obtain ⟨fuel, rfl⟩ : ∃ m, fuel = m + 1 := ⟨fuel - 1, by omega⟩
      have : j = k := by omega
      subst this
      have hps := pow_step j
      have hpj := two_pos j
      apply loopS_brk
      rw [hf, if_f]
      rw [decide_eq_true_eq]; unfold p2; rw [w64_id (by omega) (by omega)]; omega
    | succ d ih =>
      intro j hj fuel hfu
      obtain ⟨fuel, rfl⟩ : ∃ m, fuel = m + 1 := ⟨fuel - 1, by omega⟩
      have hps := pow_step j
      have hpj := two_pos j
      have hjk : 2 ^ (j + 1) ≤ 2 ^ k := Nat.pow_le_pow_right (by omega) (by omega)
      rw [loopS_next (s' := p2 (j + 1)) (by
        rw [hf, if_t (by rw [decide_eq_true_eq]; unfold p2; rw [w64_id (by omega) (by omega)]; omega)]
        refine congrArg some (congrArg LR.next ?_)
        unfold p2; rw [w64_id (by omega) (by omega)]; omega)]
      exact ih (j + 1) (by omega) fuel (by omega)
  have hk64 : k < 2 ^ k := Nat.lt_pow_self (by omega)
  have := key k 0 (by omega) FU (fu_lt (by omega))
  rw [hk]; exact this
theorem rlistF_eq : ∀ (n : Nat) (l : List T_api_Hash), l.length < n → l.length ≤ 4000000000 → rolodexref15_List_F n l = some (mth l) := by
  intro n
  induction n with
  | zero => intro l h; omega
  | succ n ih =>
    intro l h hl
    show rolodexref15_List_B (rolodexref15_List_F n) l = _
    unfold rolodexref15_List_B
    match l, h, hl with
    | [], h, hl => rw [if_t (by rfl), bind_some' (sumr_eq [] (by simp)), mth_nil]
    | [x], h, hl => rw [if_f (by simp), if_t (by rfl), bind_some' (lget_at (i := (0 : Int)) (k := 0) rfl (by simp)), mth_one]; rfl
    | x :: y :: l, h, hl =>
      generalize hL : x :: y :: l = L at h hl
      have h2 : 2 ≤ L.length := by rw [← hL]; simp
      have h1 := halfloop (f := fun (s : Int) => rolodexref15_List_L1 L s) L.length hl h2 (fun y1 => rfl)
      obtain ⟨k, hk, hlt, hle⟩ := half_spec h2
      have hp := two_pos k
      rw [if_f (by rw [decide_eq_true_eq]; omega), if_f (by rw [decide_eq_true_eq]; omega), bind_some' h1, hk,
        bind_some' (lslice_at (lo := (0 : Int)) (a := 0) (b := 2 ^ k) rfl rfl (by omega) (by omega)), List.drop_zero, bind_some' (ih _ (by simp; omega) (by simp; omega)),
        bind_some' (lslice_at (a := 2 ^ k) (b := L.length) rfl rfl (by omega) (by omega)), List.take_length, bind_some' (ih _ (by simp; omega) (by simp; omega)),
        bind_some' (rnode_eq _ _), mth_two hlt hle]
theorem rlist_eq (l : List T_api_Hash) (hl : l.length ≤ 4000000000) : rolodexref15_List l = some (mth l) := rlistF_eq FU l (fu_lt (by omega)) hl
/-- The hash of the part at `p` of a list that begins at `a`. -/
def vt (a : Nat) (l : List T_api_Hash) (p k : Nat) : T_api_Hash := mth ((l.drop (p - a)).take (2 ^ k))
theorem vt_step {a : Nat} {l : List T_api_Hash} {p k : Nat} (h1 : a ≤ p) (h2 : p + 2 ^ (k + 1) ≤ a + l.length) : vt a l p (k + 1) = nd (vt a l p k) (vt a l (p + 2 ^ k) k) := by
  unfold vt
  have hps := pow_step k
  have hp := two_pos k
  have hl : ((l.drop (p - a)).take (2 ^ (k + 1))).length = 2 ^ (k + 1) := by rw [List.length_take, List.length_drop]; omega
  rw [mth_two (k := k) (by rw [hl]; omega) (by rw [hl]; exact Nat.le_refl _), List.take_take, Nat.min_eq_left (by omega), List.drop_take, List.drop_drop, show 2 ^ (k + 1) - 2 ^ k = 2 ^ k by omega, show p - a + 2 ^ k = p + 2 ^ k - a by omega]
theorem vt_leaf {a : Nat} {l : List T_api_Hash} {i : Nat} (hi : i < l.length) : vt a l (a + i) 0 = l[i] := by
  unfold vt
  rw [Nat.add_sub_cancel_left, List.drop_eq_getElem_cons hi]
  exact mth_one _
theorem leaves_hs (a : Nat) (l : List T_api_Hash) : Hs (vt a l) (leaves a l) := by
  have : ∀ (m : List T_api_Hash) (i : Nat), l.drop i = m → Hs (vt a l) (leaves (a + i) m) := by
    intro m
    induction m with
    | nil => intro i h x hx; cases hx
    | cons y m ih =>
      intro i h x hx
      have hi : i < l.length := by
        apply Decidable.byContradiction
        intro hc
        rw [List.drop_eq_nil_of_le (by omega)] at h; cases h
      rw [List.drop_eq_getElem_cons hi] at h
      injection h with h1 h2
      rcases List.mem_cons.1 hx with rfl | hx
      · rw [← h1]; exact (vt_leaf hi).symm
      · exact ih (i + 1) h2 x hx
  exact this l 0 rfl
/-- The stack over a list of leaves. -/
def cst (a : Nat) (l : List T_api_Hash) : List (P T_api_Hash) := puts nd [] (leaves a l)
theorem cst_ct (a : Nat) (l : List T_api_Hash) : Ct a (cst a l) (a + l.length) := puts_ct nd _ [] a _ rfl (leaves_fw l a)
theorem cst_nf (a : Nat) (l : List T_api_Hash) : Nf (cst a l) := puts_nf nd _ [] trivial
theorem cst_hs (a : Nat) (l : List T_api_Hash) : Hs (vt a l) (cst a l) :=
  puts_hs (nd := nd) (V := vt a l) (a := a) (E := a + l.length) (fun p k h1 h2 _ => vt_step h1 h2) (leaves a l) [] a _ rfl (leaves_fw l a) (Nat.le_refl _) (fun _ h => by cases h) (leaves_hs a l)
/-- The hashes of a range over leaves. -/
def hsh (a : Nat) (l : List T_api_Hash) : List T_api_Hash := hof (cst a l)
theorem rows (a : Nat) (l : List T_api_Hash) : Fw a (cst a l).reverse (a + l.length) ∧ NfF (cst a l).reverse ∧ Hs (vt a l) (cst a l).reverse := ⟨ct_fw _ _ _ (cst_ct a l), nf_rev _ (cst_nf a l), hs_rev (cst_hs a l)⟩
theorem cst_segs (a : Nat) (l : List T_api_Hash) : (cst a l).reverse.map (fun x => x.2.1) = segs a (a + l.length) := (segs_uniq (by omega) (seg_of_nf _ _ _ (rows a l).1 (rows a l).2.1)).symm
theorem hsh_vl (a : Nat) (l : List T_api_Hash) : hsh a l = vl (vt a l) a (segs a (a + l.length)) := by
  rw [← cst_segs]; exact fw_vl _ _ _ (rows a l).1 (rows a l).2.2
theorem hsh_len (a : Nat) (l : List T_api_Hash) : (hsh a l).length = (segs a (a + l.length)).length := by
  rw [← cst_segs]; simp [hsh, hof]
theorem hsh_lay (a : Nat) (l : List T_api_Hash) : lay a (segs a (a + l.length)) (hsh a l) = (cst a l).reverse := by
  rw [← cst_segs]; exact lay_eq _ _ _ (rows a l).1
theorem hsh_le (a : Nat) (l : List T_api_Hash) : (hsh a l).length ≤ l.length := by
  have := ct_len _ _ (cst_ct a l)
  have : (hsh a l).length = (cst a l).length := by simp [hsh, hof]
  omega
theorem of_eq' (l : List T_api_Hash) (a : Nat) (h : a + l.length ≤ 2147483647) : frontier_Of (a : Int) l = some (((a : Int), ((a + l.length : Nat) : Int), hsh a l), (0 : Int)) := of_eq l a h
/-! ## Formed -/
noncomputable def formed (r : T_frontier_Range) : Bool := decide (0 ≤ r.1 ∧ r.1 ≤ r.2.1 ∧ r.2.1 ≤ 2147483647 ∧ (segs r.1.toNat r.2.1.toNat).length = r.2.2.length)
theorem formed_iff {r : T_frontier_Range} : formed r = true ↔ ∃ a e : Nat, r.1 = (a : Int) ∧ r.2.1 = (e : Int) ∧ a ≤ e ∧ e ≤ 2147483647 ∧ (segs a e).length = r.2.2.length := by
  unfold formed
  rw [decide_eq_true_eq]
  constructor
  · rintro ⟨h1, h2, h3, h4⟩
    exact ⟨r.1.toNat, r.2.1.toNat, by omega, by omega, by omega, by omega, h4⟩
  · rintro ⟨a, e, h1, h2, h3, h4, h5⟩
    rw [h1, h2]
    exact ⟨by omega, by omega, by omega, by simpa using h5⟩
theorem formed_eq (r : T_frontier_Range) : frontier_Formed r = some (formed r) := by
  unfold frontier_Formed
  rw [bind_some' (may_eq _ _)]
  by_cases h : 0 ≤ r.1 ∧ r.1 ≤ r.2.1 ∧ r.2.1 ≤ 2147483647
  · have h1 := segments_eq r.1.toNat r.2.1.toNat (by omega) (by omega)
    rw [show ((r.1.toNat : Nat) : Int) = r.1 by omega, show ((r.2.1.toNat : Nat) : Int) = r.2.1 by omega] at h1
    rw [if_t (decide_eq_true h), bind_some' h1, Option.bind_some]
    refine congrArg some ?_
    unfold formed
    rw [List.length_map]
    by_cases hs : (segs r.1.toNat r.2.1.toNat).length = r.2.2.length
    · rw [decide_eq_true (by omega), decide_eq_true ⟨h.1, h.2.1, h.2.2, hs⟩]
    · rw [decide_eq_false (by omega), decide_eq_false (fun hh => hs hh.2.2.2)]
  · rw [decide_eq_false h, if_f (by decide), Option.bind_some]
    unfold formed
    rw [decide_eq_false (fun hh => h ⟨hh.1, hh.2.1, hh.2.2.1⟩)]
theorem rformed_eq (r : T_frontier_Range) : rolodexref15_Formed r = some (formed r) := by
  unfold rolodexref15_Formed
  rw [bind_some' (rmay_eq _ _)]
  by_cases h : 0 ≤ r.1 ∧ r.1 ≤ r.2.1 ∧ r.2.1 ≤ 2147483647
  · have h1 := rsegments_eq r.1.toNat r.2.1.toNat (by omega) (by omega)
    rw [show ((r.1.toNat : Nat) : Int) = r.1 by omega, show ((r.2.1.toNat : Nat) : Int) = r.2.1 by omega] at h1
    rw [if_t (decide_eq_true h), bind_some' h1, Option.bind_some]
    refine congrArg some ?_
    unfold formed
    rw [List.length_map]
    by_cases hs : (segs r.1.toNat r.2.1.toNat).length = r.2.2.length
    · rw [decide_eq_true (by omega), decide_eq_true ⟨h.1, h.2.1, h.2.2, hs⟩]
    · rw [decide_eq_false (by omega), decide_eq_false (fun hh => hs hh.2.2.2)]
  · rw [decide_eq_false h, if_f (by decide), Option.bind_some]
    unfold formed
    rw [decide_eq_false (fun hh => h ⟨hh.1, hh.2.1, hh.2.2.1⟩)]
theorem formed_of (a : Nat) (l : List T_api_Hash) (h : a + l.length ≤ 2147483647) : formed ((a : Int), ((a + l.length : Nat) : Int), hsh a l) = true :=
  formed_iff.2 ⟨a, a + l.length, rfl, rfl, by omega, h, (hsh_len a l).symm⟩
/-! ## Root -/
def zeroH : T_api_Hash := Vector.replicate 32 (0#8)
noncomputable def rootS (r : T_frontier_Range) : T_api_Hash × Int :=
  if formed r = true ∧ r.1 = 0 then (if r.2.2 = [] then (sha [], 0) else (fold1 nd zeroH r.2.2, 0)) else (zeroH, 1)
theorem fold1_snoc2 (z : T_api_Hash) : ∀ (l : List T_api_Hash) (x y : T_api_Hash), fold1 nd z (l ++ [x, y]) = fold1 nd z (l ++ [nd x y])
  | [], x, y => rfl
  | [w], x, y => rfl
  | w :: v :: l, x, y => by
    show nd w (fold1 nd z (v :: l ++ [x, y])) = nd w (fold1 nd z (v :: l ++ [nd x y]))
    rw [fold1_snoc2 z (v :: l) x y]
theorem root_eq (r : T_frontier_Range) (hr : r.2.2.length ≤ 4000000000) : frontier_Root r = some (rootS r) := by
  unfold frontier_Root rootS
  rw [bind_some' (formed_eq r)]
  by_cases hf : formed r = true
  · rw [hf, if_f (by decide), Option.bind_some]
    by_cases h0 : r.1 = 0
    · rw [if_f (by simp [h0]), if_pos (show true = true ∧ r.1 = 0 from ⟨rfl, h0⟩)]
      by_cases hn : r.2.2 = []
      · rw [if_t (by simp [hn]), bind_some' (sum_eq [] (by simp)), if_pos hn]
      · have hlen : 0 < r.2.2.length := List.length_pos_iff.2 hn
        rw [if_f (by rw [decide_eq_true_eq]; omega), if_neg hn]
        have key : ∀ (i fuel : Nat) (y : T_api_Hash), i ≤ r.2.2.length → i < fuel → loopS (fun (s : Int × T_api_Hash) => frontier_Root_L1 r s.1 s.2) fuel ((i : Int) - 1, y) = some (-1, fold1 nd zeroH (r.2.2.take i ++ [y])) := by
          intro i
          induction i with
          | zero =>
            intro fuel y hi hfu
            obtain ⟨fuel, rfl⟩ : ∃ m, fuel = m + 1 := ⟨fuel - 1, by omega⟩
            exact loopS_brk (s' := ((-1 : Int), y)) (by simp [frontier_Root_L1])
          | succ i ih =>
            intro fuel y hi hfu
            obtain ⟨fuel, rfl⟩ : ∃ m, fuel = m + 1 := ⟨fuel - 1, by omega⟩
            rw [loopS_next (s' := ((i : Int) - 1, nd r.2.2[i] y)) (by
              simp only [frontier_Root_L1]
              rw [if_t (by rw [decide_eq_true_eq]; omega), bind_some' (lget_at (k := i) (by omega) (by omega)), bind_some' (node_eq _ _), w64_id (by omega) (by omega)]
              refine congrArg some (congrArg LR.next (Prod.ext ?_ rfl))
              show ((i + 1 : Nat) : Int) - 1 - 1 = _
              omega), ih fuel _ (by omega) (by omega), List.take_succ_eq_append_getElem (by omega), List.append_assoc]
            exact congrArg some (congrArg (fun v => ((-1 : Int), v)) (fold1_snoc2 zeroH (r.2.2.take i) r.2.2[i] y).symm)
        have h1 := key (r.2.2.length - 1) FU (r.2.2[r.2.2.length - 1]) (by omega) (fu_lt (by omega))
        rw [bind_some' (lget_at (k := r.2.2.length - 1) (by rw [w64_id (by omega) (by omega)]; omega) (by omega)), w64_id (n := (r.2.2.length : Int) - 2) (by omega) (by omega), show (r.2.2.length : Int) - 2 = ((r.2.2.length - 1 : Nat) : Int) - 1 by omega, bind_some' h1]
        refine congrArg some (congrArg (fun v => (v, (0 : Int))) ?_)
        show fold1 nd zeroH (r.2.2.take (r.2.2.length - 1) ++ [r.2.2[r.2.2.length - 1]]) = _
        rw [← List.take_succ_eq_append_getElem (by omega), List.take_of_length_le (by omega)]
    · rw [if_t (by simp [h0]), if_neg (show ¬ (true = true ∧ r.1 = 0) from fun h => h0 h.2)]; rfl
  · rw [Bool.not_eq_true] at hf
    rw [hf, if_t (by rfl), Option.bind_some, if_t rfl, if_neg (show ¬ (false = true ∧ r.1 = 0) from fun h => by cases h.1)]; rfl
theorem rfoldF_eq : ∀ (n : Nat) (l : List T_api_Hash), l ≠ [] → l.length < n → l.length ≤ 4000000000 → rolodexref15_fold_F n l = some (fold1 nd zeroH l) := by
  intro n
  induction n with
  | zero => intro l _ h; omega
  | succ n ih =>
    intro l hne h hl
    show rolodexref15_fold_B (rolodexref15_fold_F n) l = _
    unfold rolodexref15_fold_B
    match l, hne, h, hl with
    | [x], _, h, hl => rw [if_t (by rfl), bind_some' (lget_at (i := (0 : Int)) (k := 0) rfl (by simp))]; rfl
    | x :: y :: l, _, h, hl =>
      simp only [List.length_cons] at h hl
      rw [if_f (by simp; omega), bind_some' (lget_at (i := (0 : Int)) (k := 0) rfl (by simp)), bind_some' (lslice_at (lo := (1 : Int)) (a := 1) (b := (x :: y :: l).length) rfl rfl (by simp) (by simp)), List.take_length]
      show Option.bind (rolodexref15_fold_F n (y :: l)) _ = _
      rw [bind_some' (ih (y :: l) (by simp) (by simp; omega) (by simp; omega)), bind_some' (rnode_eq _ _)]
      rfl
theorem rroot_eq (r : T_frontier_Range) (hr : r.2.2.length ≤ 4000000000) : rolodexref15_Root r = some (rootS r) := by
  unfold rolodexref15_Root rootS
  rw [bind_some' (rformed_eq r)]
  by_cases hf : formed r = true
  · rw [hf, if_f (by decide), Option.bind_some]
    by_cases h0 : r.1 = 0
    · rw [if_f (by simp [h0]), if_pos (show true = true ∧ r.1 = 0 from ⟨rfl, h0⟩)]
      by_cases hn : r.2.2 = []
      · rw [if_t (by simp [hn]), bind_some' (sumr_eq [] (by simp)), if_pos hn]
      · have hlen : 0 < r.2.2.length := List.length_pos_iff.2 hn
        rw [if_f (by rw [decide_eq_true_eq]; omega), if_neg hn]
        rw [bind_some' (show rolodexref15_fold r.2.2 = _ from rfoldF_eq FU _ hn (fu_lt (by omega)) hr)]
    · rw [if_t (by simp [h0]), if_neg (show ¬ (true = true ∧ r.1 = 0) from fun h => h0 h.2)]; rfl
  · rw [Bool.not_eq_true] at hf
    rw [hf, if_t (by rfl), Option.bind_some, if_t rfl, if_neg (show ¬ (false = true ∧ r.1 = 0) from fun h => by cases h.1)]; rfl
/-- The fold of a merged row over leaves is their tree. -/
theorem fold_row {b : Nat} {l : List T_api_Hash} : ∀ (L : List (P T_api_Hash)) (a e : Nat), L ≠ [] → Fw a L e → NfF L → Hs (vt b l) L → b ≤ a → e ≤ b + l.length → (∀ i, 2 ^ i ≤ e - a → 2 ^ i ∣ a) →
    fold1 nd zeroH (L.map (fun x => x.2.2)) = mth ((l.drop (a - b)).take (e - a))
  | [], a, e, hne, _, _, _, _, _, _ => absurd rfl hne
  | [x], a, e, _, hf, hn, hs, hb, he, hal => by
    have h1 := hs x (List.mem_cons_self ..)
    have h2 : x.1 = a := hf.1
    have h3 : x.1 + 2 ^ x.2.1 = e := hf.2.2
    have hpx := two_pos x.2.1
    show x.2.2 = _
    rw [h1]; unfold vt
    rw [h2, show e - a = 2 ^ x.2.1 by omega]
  | x :: y :: L, a, e, _, hf, hn, hs, hb, he, hal => by
    have h1 := hs x (List.mem_cons_self ..)
    have h2 : x.1 = a := hf.1
    have hsz := (seg_of_nf _ _ _ hf hn).2.1
    have hsz' : IsSz a (e - a) x.2.1 := hsz
    have hlt : a + 2 ^ x.2.1 < e := by
      have h := (seg_of_nf _ _ _ hf hn).2.2
      have h' : Seg (a + 2 ^ x.2.1) e (y.2.1 :: L.map (fun x => x.2.1)) := h
      exact h'.1
    have hub : e - a < 2 ^ (x.2.1 + 1) := by
      apply Decidable.byContradiction
      intro hc
      exact hsz'.2.2 ⟨by omega, hal _ (by omega)⟩
    have hps := pow_step x.2.1
    have hf' : Fw (a + 2 ^ x.2.1) (y :: L) e := by have := hf.2.2; rw [h2] at this; exact this
    have ih := fold_row (y :: L) (a + 2 ^ x.2.1) e (by simp) hf' hn.2 (fun z hz => hs z (List.mem_cons_of_mem _ hz)) (by omega) he (fun i hi => by
      have h1 : 2 ^ i < 2 ^ x.2.1 := by omega
      have h2 : i < x.2.1 := (Nat.pow_lt_pow_iff_right (a := 2) (by omega)).1 h1
      exact Nat.dvd_add (hal i (by omega)) (pow_dvd (by omega)))
    have hl : ((l.drop (a - b)).take (e - a)).length = e - a := by rw [List.length_take, List.length_drop]; omega
    rw [mth_two (k := x.2.1) (by rw [hl]; omega) (by rw [hl]; omega)]
    show nd x.2.2 (fold1 nd zeroH ((y :: L).map (fun x => x.2.2))) = _
    rw [ih, h1, List.take_take, Nat.min_eq_left (by omega), List.drop_take, List.drop_drop, show a - b + 2 ^ x.2.1 = a + 2 ^ x.2.1 - b by omega, show e - a - 2 ^ x.2.1 = e - (a + 2 ^ x.2.1) by omega]
    unfold vt; rw [h2]
theorem root_of (l : List T_api_Hash) (h : l.length ≤ 2147483647) : rootS ((0 : Int), ((l.length : Nat) : Int), hsh 0 l) = (mth l, 0) := by
  unfold rootS
  have hf := formed_of 0 l (by omega)
  rw [Nat.zero_add] at hf
  rw [if_pos ⟨hf, rfl⟩]
  by_cases hn : l = []
  · subst hn
    rw [if_pos (by rfl), mth_nil]
  · have hlen : 0 < l.length := List.length_pos_iff.2 hn
    have hr := rows 0 l
    rw [Nat.zero_add] at hr
    have hne : (cst 0 l).reverse ≠ [] := by
      intro hc
      rw [hc] at hr
      have h0 : 0 = l.length := hr.1
      omega
    rw [if_neg (by simpa [hsh, hof] using hne)]
    have := fold_row (cst 0 l).reverse 0 l.length hne hr.1 hr.2.1 hr.2.2 (Nat.le_refl _) (by omega) (fun i _ => Nat.dvd_zero _)
    rw [Nat.sub_zero, Nat.sub_zero, List.drop_zero, List.take_length] at this
    exact congrArg (fun v => (v, (0 : Int))) this
end Go.Sl.Pu
