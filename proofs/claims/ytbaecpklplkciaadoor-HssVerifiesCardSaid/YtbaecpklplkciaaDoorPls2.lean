import Derived.Test.YtbaecpklplkciaaDoorPls1
set_option linter.unusedSimpArgs false
set_option linter.unusedVariables false
set_option maxRecDepth 20000
/-! Trees of keys: verifying. -/
namespace Go.Sl.Pu
open Go.Sl Go.Sl.M
attribute [local irreducible] sha w64 pubk und sigk ndh recov val hat
theorem equal_eq (a b : List (BitVec 8)) (ha : a.length ≤ 4294967296) : slices_Equal_byte_byte a b = some (decide (a = b)) := by
  unfold slices_Equal_byte_byte
  by_cases hl : a.length = b.length
  · rw [if_f (by simp [hl])]
    have h1 := eqscan (f := fun (s : Int) => slices_Equal_byte_byte_L1 a b s) a b hl (by omega) (fun i h1 h2 => by
      simp only [slices_Equal_byte_byte_L1]
      rw [if_t (by rw [decide_eq_true_eq]; omega), bind_some' (lget_at rfl h1), bind_some' (lget_at rfl h2), w64_id (by omega) (by omega)]
      by_cases he : a[i] = b[i]
      · rw [if_f (by simp [he]), if_pos he]
      · rw [if_t (by simp [he]), if_neg he]) (by
      simp only [slices_Equal_byte_byte_L1]
      rw [if_f (by rw [decide_eq_true_eq]; omega)])
    rw [bind_some' h1]
    by_cases hab : a = b
    · rw [if_pos hab, decide_eq_true hab]
    · rw [if_neg hab, decide_eq_false hab]
  · rw [if_t (by simp; omega), decide_eq_false (fun h => hl (by rw [h]))]
/-- The number in four bytes. -/
def n4 (b : List (BitVec 8)) (i : Nat) : Nat := (val ((b.drop i).take 4)).toNat
theorem n4_lt (b : List (BitVec 8)) (i : Nat) : n4 b i < 4294967296 := by
  have := val_lt ((b.drop i).take 4) 4 (by simp; omega) (by omega)
  unfold n4
  have h32 : (2 : Nat) ^ (8 * 4) = 4294967296 := by decide
  omega
theorem n4_w (b : List (BitVec 8)) (i : Nat) : (((val ((b.drop i).take 4)).setWidth 32).toNat : Int) = (n4 b i : Int) := by
  have := n4_lt b i
  unfold n4 at this ⊢
  rw [BitVec.toNat_setWidth, Nat.mod_eq_of_lt (by omega)]
theorem rU32_at (b : List (BitVec 8)) (i : Nat) (h : i + 4 ≤ b.length) : wire_Reader_U32 (b.drop i, false) = some ((b.drop (i + 4), false), (val ((b.drop i).take 4)).setWidth 32) := by
  rw [rU32_eq _ (by rw [List.length_drop]; omega), List.drop_drop]
theorem rPlain_at (b : List (BitVec 8)) (i n : Nat) (h : i + n ≤ b.length) : wire_Reader_Plain (b.drop i, false) (n : Int) = some ((b.drop (i + n), false), (b.drop i).take n) := by
  rw [rPlain_eq _ n (by rw [List.length_drop]; omega), List.drop_drop]
/-- The hashes in bytes, from a place on. -/
def hats (b : List (BitVec 8)) (p h : Nat) : List T_api_Hash := (List.range h).map fun i => hat b (p + 32 * i)
theorem hats_succ (b : List (BitVec 8)) (p h : Nat) : hats b p (h + 1) = hats b p h ++ [hat b (p + 32 * h)] := by simp [hats, List.range_succ]
theorem hats_len (b : List (BitVec 8)) (p h : Nat) : (hats b p h).length = h := by simp [hats]
theorem parted_len {h k : Nat} (hh : IsH h) (hk : IsKind k) (b : List (BitVec 8)) (hl : b.length ≠ 8 + sizeN k + 32 * h) : lms_parted b (h : Int) (k : Int) = some ((0, [], []), false) := by
  unfold lms_parted
  rw [bind_some' (lsize_eq hh hk), if_t (by
    simp only [Bool.not_eq_true', decide_eq_false_iff_not]
    omega), Option.bind_some]
theorem parted_eq {h k : Nat} (hh : IsH h) (hk : IsKind k) (b : List (BitVec 8)) (hl : b.length = 8 + sizeN k + 32 * h) :
    lms_parted b (h : Int) (k : Int) = some (((n4 b 0 : Int), (b.drop 4).take (sizeN k), hats b (8 + sizeN k) h), decide (n4 b (4 + sizeN k) = h ∧ n4 b 0 < KK h ∧ n4 ((b.drop 4).take (sizeN k)) 0 = k)) := by
  unfold lms_parted
  have hhl := isH_le hh
  have hsz : sizeN k ≤ 100000 ∧ 36 ≤ sizeN k := by have := chainsN_le hk; unfold sizeN; omega
  rw [bind_some' (lsize_eq hh hk), if_f (by
    simp only [Bool.not_eq_true', decide_eq_false_iff_not, Decidable.not_not]
    omega)]
  have r1 := rU32_at b 0 (by omega)
  have r2 := rPlain_at b 4 (sizeN k) (by omega)
  have r3 := rU32_at b (4 + sizeN k) (by omega)
  rw [show (0 : Nat) + 4 = 4 from rfl] at r1
  rw [show 4 + sizeN k + 4 = 8 + sizeN k by omega] at r3
  rw [bind_some' (rNew_eq b (by omega))]
  simp only []
  rw [show wire_Reader_U32 (b, false) = _ from r1, Option.bind_some]
  simp only []
  rw [bind_some' (size_eq hk), bind_some' r2]
  simp only []
  rw [bind_some' r3]
  simp only []
  have hloop := loopS_cnt (f := fun (s : Int × (List (BitVec 8)) × Bool × (List T_api_Hash)) => lms_parted_L1 (h : Int) s.1 s.2.1 s.2.2.1 s.2.2.2) (fun i (_ : Unit) => ((i : Int), b.drop (8 + sizeN k + 32 * i), false, hats b (8 + sizeN k) i)) (fun _ s => s) 0 h (fun i s h1 h2 => by
    simp only [lms_parted_L1]
    have r4 : wire_Reader_Plain (b.drop (8 + sizeN k + 32 * i), false) (32 : Int) = _ := rPlain_at b (8 + sizeN k + 32 * i) 32 (by omega)
    rw [if_t (by rw [decide_eq_true_eq]; omega), bind_some' r4]
    simp only []
    rw [bind_some' (hat_eq b (8 + sizeN k + 32 * i) (by omega)), if_t (by rw [hats_len]; unfold AP; simp only [List.length_singleton]; omega), w64_id (n := (i : Int) + 1) (by omega) (by omega), hats_succ]
    rfl) (fun s => by
    simp only [lms_parted_L1]
    rw [if_f (by rw [decide_eq_true_eq]; omega)]) FU () (by omega) (fu_lt (by omega))
  have hloop' : loopS (fun (s : Int × (List (BitVec 8)) × Bool × (List T_api_Hash)) => lms_parted_L1 (h : Int) s.1 s.2.1 s.2.2.1 s.2.2.2) FU ((0 : Int), b.drop (8 + sizeN k), false, ([] : List T_api_Hash)) = some ((h : Int), b.drop (8 + sizeN k + 32 * h), false, hats b (8 + sizeN k) h) := hloop
  rw [bind_some' hloop']
  simp only []
  have hd : wire_Reader_Done (b.drop (8 + sizeN k + 32 * h), false) = some true := by
    unfold wire_Reader_Done wire_Reader_Fails wire_Reader_Left
    rw [Option.bind_some, Option.bind_some, if_t (by rfl), Option.bind_some, decide_eq_true (by rw [List.length_drop]; omega), Option.bind_some]
  rw [bind_some' hd, if_t rfl]
  have e1 : (((val (List.take 4 (List.drop (4 + sizeN k) b))).setWidth 32).toNat : Int) = (n4 b (4 + sizeN k) : Int) := n4_w b _
  have e2 : (((val (List.take 4 (List.drop 0 b))).setWidth 32).toNat : Int) = (n4 b 0 : Int) := n4_w b 0
  rw [e1, e2, Option.bind_some]
  have hq : (n4 ((b.drop 4).take (sizeN k)) 0 : Int) = (((val (List.take 4 (List.drop 0 ((b.drop 4).take (sizeN k))))).setWidth 32).toNat : Int) := (n4_w _ 0).symm
  have hol : ((b.drop 4).take (sizeN k)).length = sizeN k := by rw [List.length_take, List.length_drop]; omega
  have r5 := rU32_at ((b.drop 4).take (sizeN k)) 0 (by omega)
  by_cases c1 : n4 b (4 + sizeN k) = h
  · rw [if_t (by rw [decide_eq_true_eq, c1]), if_t (by omega), Option.bind_some, ishl_KK hh]
    by_cases c2 : n4 b 0 < KK h
    · rw [if_t (by rw [decide_eq_true_eq]; omega), bind_some' (rNew_eq _ (by omega))]
      simp only []
      rw [show wire_Reader_U32 ((b.drop 4).take (sizeN k), false) = _ from r5, Option.bind_some, Option.bind_some]
      simp only []
      rw [← hq]
      refine congrArg some (Prod.ext rfl ?_)
      simp only [decide_eq_decide]
      constructor
      · intro hc; exact ⟨c1, c2, by omega⟩
      · intro hc; have := hc.2.2; omega
    · rw [if_f (by rw [decide_eq_true_eq]; omega), Option.bind_some]
      refine congrArg some (Prod.ext rfl ?_)
      simp only []
      rw [decide_eq_false (fun hc => c2 hc.2.1)]
  · rw [if_f (by rw [decide_eq_true_eq]; omega), Option.bind_some, if_f (by decide), Option.bind_some]
    refine congrArg some (Prod.ext rfl ?_)
    simp only []
    rw [decide_eq_false (fun hc => c1 hc.1)]
/-- Up a path. -/
def climbv (id : T_api_ID) : Nat → T_api_Hash → List T_api_Hash → T_api_Hash
  | _, h, [] => h
  | r, h, x :: l => climbv id (r / 2) (if r % 2 = 1 then ndh id (r / 2) 33667 (x.toList ++ h.toList) else ndh id (r / 2) 33667 (h.toList ++ x.toList)) l
theorem climb_loop (id : T_api_ID) (P : List T_api_Hash) (hP : P.length ≤ 1000) : ∀ (l : List T_api_Hash) (i r fuel : Nat) (h : T_api_Hash), P.drop i = l → i + l.length = P.length → r ≤ 1000000 → l.length < fuel →
    ∃ u v, loopS (fun (s : Int × Int × T_api_Hash) => lms_climb_L1 P id s.1 s.2.1 s.2.2) fuel ((r : Int), (i : Int), h) = some (u, v, climbv id r h l) := by
  intro l
  induction l with
  | nil =>
    intro i r fuel h h1 hi hr hfu
    obtain ⟨fuel, rfl⟩ : ∃ m, fuel = m + 1 := ⟨fuel - 1, by omega⟩
    simp only [List.length_nil] at hi
    exact ⟨(r : Int), (i : Int), loopS_brk (by
      simp only [lms_climb_L1]
      rw [if_f (by rw [decide_eq_true_eq]; omega)]; rfl)⟩
  | cons x l ih =>
    intro i r fuel h h1 hi hr hfu
    obtain ⟨fuel, rfl⟩ : ∃ m, fuel = m + 1 := ⟨fuel - 1, by omega⟩
    simp only [List.length_cons] at hi hfu
    have hi1 : i < P.length := by omega
    rw [List.drop_eq_getElem_cons hi1] at h1
    injection h1 with h1 h1'
    have hd : Int.tdiv (r : Int) 2 = ((r / 2 : Nat) : Int) := (Int.ofNat_tdiv r 2).symm
    have hm : Int.tmod (r : Int) 2 = ((r % 2 : Nat) : Int) := (Int.ofNat_tmod r 2).symm
    obtain ⟨u, v, huv⟩ := ih (i + 1) (r / 2) fuel (if r % 2 = 1 then ndh id (r / 2) 33667 (x.toList ++ h.toList) else ndh id (r / 2) 33667 (h.toList ++ x.toList)) h1' (by omega) (by omega) (by omega)
    refine ⟨u, v, ?_⟩
    rw [loopS_next (s' := (((r / 2 : Nat) : Int), ((i + 1 : Nat) : Int), if r % 2 = 1 then ndh id (r / 2) 33667 (x.toList ++ h.toList) else ndh id (r / 2) 33667 (h.toList ++ x.toList))) (by
      simp only [lms_climb_L1]
      rw [if_t (by rw [decide_eq_true_eq]; omega), bind_some' (lget_at rfl hi1), h1, hm, hd]
      clear hm hd huv
      rw [w64_id (n := ((r / 2 : Nat) : Int)) (by omega) (by omega), w64_id (n := (i : Int) + 1) (by omega) (by omega)]
      by_cases c : r % 2 = 1
      · rw [if_t (by rw [decide_eq_true_eq]; omega), Option.bind_some, bind_some' (linner_eq id (r / 2) _ _), if_pos c]; rfl
      · rw [if_f (by rw [decide_eq_true_eq]; omega), Option.bind_some, bind_some' (linner_eq id (r / 2) _ _), if_neg c]; rfl), huv]
    rfl
theorem climb_eq (id : T_api_ID) (r : Nat) (hr : r ≤ 1000000) (h : T_api_Hash) (P : List T_api_Hash) (hP : P.length ≤ 1000) : lms_climb id (r : Int) h P = some (climbv id r h P) := by
  unfold lms_climb
  obtain ⟨u, v, huv⟩ := climb_loop id P hP P 0 r FU h rfl (by omega) hr (fu_lt (by omega))
  have huv' : loopS (fun (s : Int × Int × T_api_Hash) => lms_climb_L1 P id s.1 s.2.1 s.2.2) FU ((r : Int), (0 : Int), h) = _ := huv
  rw [bind_some' huv']
/-- An id in bytes. -/
def idat (b : List (BitVec 8)) (off : Nat) : T_api_ID := Vector.ofFn fun j : Fin 16 => b.getD (off + j.val) 0#8
theorem idat_toList (b : List (BitVec 8)) (off : Nat) (h : off + 16 ≤ b.length) : (idat b off).toList = (b.drop off).take 16 := by
  apply List.ext_getElem?
  intro i
  rw [List.getElem?_take]
  by_cases hi : i < 16
  · rw [if_pos hi, List.getElem?_drop]
    have h2 : off + i < b.length := by omega
    have : (idat b off).toList[i]? = some (b.getD (off + i) 0#8) := by
      unfold idat
      rw [List.getElem?_eq_getElem (by simp; exact hi)]
      simp
    rw [this]; simp [h2]
  · rw [if_neg hi, List.getElem?_eq_none (by simp; omega)]
theorem idat_eq (b : List (BitVec 8)) (off : Nat) (h : off + 16 ≤ b.length) : toVecO 16 ((b.drop off).take 16) = some (idat b off) := by
  have hl : 16 ≤ ((b.drop off).take 16).length := by simp; omega
  unfold toVecO
  rw [dif_pos hl]
  refine congrArg some (Vector.toList_inj.1 ?_)
  rw [toVec_toList, idat_toList b off h, List.take_take, Nat.min_self]
/-- Where a signature leads. -/
def leads (h k : Nat) (id : T_api_ID) (msg sig : List (BitVec 8)) : T_api_Hash :=
  climbv id (KK h + n4 sig 0) (ndh id (KK h + n4 sig 0) 33410 (recov k id (BitVec.ofNat 32 (n4 sig 0)) msg ((sig.drop 4).take (sizeN k))).toList) (hats sig (8 + sizeN k) h)
def isT (h k : Nat) (sig : List (BitVec 8)) : Prop := n4 sig (4 + sizeN k) = h ∧ n4 sig 0 < KK h ∧ n4 ((sig.drop 4).take (sizeN k)) 0 = k
instance (h k : Nat) (sig : List (BitVec 8)) : Decidable (isT h k sig) := by unfold isT; infer_instance
/-- Right signatures of trees. -/
def vrf (p msg sig : List (BitVec 8)) : Bool :=
  decide (p.length = 56 ∧ (1 ≤ n4 p 0 ∧ n4 p 0 ≤ 4) ∧ (1 ≤ n4 p 4 ∧ n4 p 4 ≤ 4) ∧ sig.length = 8 + sizeN (n4 p 4) + 32 * n4 p 0 ∧ isT (n4 p 0) (n4 p 4) sig ∧ (leads (n4 p 0) (n4 p 4) (idat p 8) msg sig).toList = (p.drop 24).take 32)
theorem lverify_eq (p msg sig : List (BitVec 8)) (hp : p.length ≤ 4000000000) (hm : msg.length ≤ 2000000000) (hs : sig.length ≤ 2000000000) : lms_Verify p msg sig = some (vrf p msg sig) := by
  unfold lms_Verify
  by_cases hl : p.length = 56
  · rw [if_f (by simp [hl]), bind_some' (rNew_eq p hp)]
    have r1 := rU32_at p 0 (by omega)
    have r2 := rU32_at p 4 (by omega)
    have r3 : wire_Reader_Plain (p.drop 8, false) (16 : Int) = _ := rPlain_at p 8 16 (by omega)
    have r4 : wire_Reader_Plain (p.drop 24, false) (32 : Int) = _ := rPlain_at p 24 32 (by omega)
    simp only []
    rw [show wire_Reader_U32 (p, false) = _ from r1, Option.bind_some]
    simp only []
    rw [show wire_Reader_U32 (p.drop (0 + 4), false) = _ from r2, Option.bind_some]
    simp only []
    rw [show wire_Reader_Plain (p.drop (4 + 4), false) (16 : Int) = _ from r3, Option.bind_some]
    simp only []
    rw [bind_some' (idat_eq p 8 (by omega)), show wire_Reader_Plain (p.drop (8 + 16), false) (32 : Int) = _ from r4, Option.bind_some]
    simp only []
    have e1 : (((val (List.take 4 (List.drop 0 p))).setWidth 32).toNat : Int) = (n4 p 0 : Int) := n4_w p 0
    have e2 : (((val (List.take 4 (List.drop 4 p))).setWidth 32).toNat : Int) = (n4 p 4 : Int) := n4_w p 4
    rw [e1, e2]
    by_cases hb : (1 ≤ n4 p 0 ∧ n4 p 0 ≤ 4) ∧ (1 ≤ n4 p 4 ∧ n4 p 4 ≤ 4)
    · have hh : IsH (n4 p 0) := by unfold IsH; omega
      have hk : IsKind (n4 p 4) := by unfold IsKind; omega
      rw [bind_some' (lmay_eq hh hk), if_f (by decide)]
      obtain ⟨hK1, hK2⟩ := KK_le hh
      by_cases hsl : sig.length = 8 + sizeN (n4 p 4) + 32 * n4 p 0
      · rw [bind_some' (parted_eq hh hk sig hsl)]
        simp only []
        by_cases ht : isT (n4 p 0) (n4 p 4) sig
        · have ht' := ht
          unfold isT at ht'
          have hsz : 36 ≤ sizeN (n4 p 4) := by unfold sizeN; omega
          have hol : ((sig.drop 4).take (sizeN (n4 p 4))).length = sizeN (n4 p 4) := by rw [List.length_take, List.length_drop]; omega
          have hsig : IsSig (n4 p 4) ((sig.drop 4).take (sizeN (n4 p 4))) := ⟨hk, hol, ht'.2.2⟩
          rw [if_f (by rw [decide_eq_true ht']; decide), ofInt32, bind_some' (recover_eq (idat p 8) _ msg _ hm hsig), if_f (by simp), if_t (by omega), ishl_KK hh, Option.bind_some,
            show w64 ((KK (n4 p 0) : Int) + (n4 sig 0 : Int)) = ((KK (n4 p 0) + n4 sig 0 : Nat) : Int) by rw [w64_id (by omega) (by omega)]; omega, bind_some' (lleaf_eq _ _ _), bind_some' (climb_eq _ _ (by omega) _ _ (by rw [hats_len]; omega)), bind_some' (equal_eq _ _ (by simp))]
          refine congrArg some ?_
          unfold vrf
          simp only [decide_eq_decide]
          constructor
          · intro hc; exact ⟨hl, hb.1, hb.2, hsl, ht, hc⟩
          · intro hc; exact hc.2.2.2.2.2
        · have ht' := ht
          unfold isT at ht'
          rw [if_t (by rw [decide_eq_false ht']; rfl)]
          refine congrArg some ?_
          unfold vrf
          rw [decide_eq_false (fun hc => ht hc.2.2.2.2.1)]
      · rw [bind_some' (parted_len hh hk sig hsl), if_t (by rfl)]
        refine congrArg some ?_
        unfold vrf
        rw [decide_eq_false (fun hc => hsl hc.2.2.2.1)]
    · rw [bind_some' (lmay_no (by omega)), if_t (by rfl)]
      refine congrArg some ?_
      unfold vrf
      rw [decide_eq_false (fun hc => hb ⟨hc.2.1, hc.2.2.1⟩)]
  · rw [if_t (by simp; omega)]
    refine congrArg some ?_
    unfold vrf
    rw [decide_eq_false (fun hc => hl hc.1)]
/-! ## The reference -/
theorem n4_bv (b : List (BitVec 8)) (i c : Nat) (hc : c < 4294967296) : (val ((b.drop i).take 4) = BitVec.ofNat 64 c) ↔ n4 b i = c := by
  have := n4_lt b i
  unfold n4 at this ⊢
  constructor
  · intro h; rw [h, BitVec.toNat_ofNat, Nat.mod_eq_of_lt (by omega)]
  · intro h; apply BitVec.eq_of_toNat_eq; rw [BitVec.toNat_ofNat, Nat.mod_eq_of_lt (by omega)]; exact h
theorem rclimb_loop (id : T_api_ID) (sig : List (BitVec 8)) (r1 : BitVec 64) (n h : Nat) (hr1 : w64 (r1.toNat : Int) = (h : Int)) (hh : h ≤ 4) (hn : n ≤ 100000) (hsl : sig.length = 8 + n + 32 * h) : ∀ (d i r fuel : Nat) (x : T_api_Hash), i + d = h → r ≤ 1000000 → d < fuel →
    ∃ u v, loopS (fun (s : Int × Int × T_api_Hash) => rolodexref05_Verify_L1 r1 sig (n : Int) id s.1 s.2.1 s.2.2) fuel ((r : Int), (i : Int), x) = some (u, v, climbv id r x ((hats sig (8 + n) h).drop i)) := by
  intro d
  induction d with
  | zero =>
    intro i r fuel x hi hr hfu
    obtain ⟨fuel, rfl⟩ : ∃ m, fuel = m + 1 := ⟨fuel - 1, by omega⟩
    refine ⟨(r : Int), (i : Int), ?_⟩
    rw [List.drop_eq_nil_of_le (by rw [hats_len]; omega)]
    exact loopS_brk (by
      simp only [rolodexref05_Verify_L1]
      rw [hr1, if_f (by clear hr1; rw [decide_eq_true_eq]; omega)]; rfl)
  | succ d ih =>
    intro i r fuel x hi hr hfu
    obtain ⟨fuel, rfl⟩ : ∃ m, fuel = m + 1 := ⟨fuel - 1, by omega⟩
    have hi1 : i < (hats sig (8 + n) h).length := by rw [hats_len]; omega
    have e0 : (hats sig (8 + n) h)[i] = hat sig (8 + n + 32 * i) := by simp [hats]
    rw [List.drop_eq_getElem_cons hi1, e0]
    have hd : Int.tdiv (r : Int) 2 = ((r / 2 : Nat) : Int) := (Int.ofNat_tdiv r 2).symm
    have hm : Int.tmod (r : Int) 2 = ((r % 2 : Nat) : Int) := (Int.ofNat_tmod r 2).symm
    obtain ⟨u, v, huv⟩ := ih (i + 1) (r / 2) fuel (if r % 2 = 1 then ndh id (r / 2) 33667 ((hat sig (8 + n + 32 * i)).toList ++ x.toList) else ndh id (r / 2) 33667 (x.toList ++ (hat sig (8 + n + 32 * i)).toList)) (by omega) (by omega) (by omega)
    refine ⟨u, v, ?_⟩
    have w1 : w64 (w64 ((8 : Int) + (n : Int)) + w64 ((32 : Int) * (i : Int))) = ((8 + n + 32 * i : Nat) : Int) := by
      clear hr1 hd hm huv e0
      rw [w64_id (n := (8 : Int) + (n : Int)) (by omega) (by omega), w64_id (n := (32 : Int) * (i : Int)) (by omega) (by omega), w64_id (by omega) (by omega)]; omega
    have w2 : w64 (w64 ((40 : Int) + (n : Int)) + w64 ((32 : Int) * (i : Int))) = ((8 + n + 32 * i + 32 : Nat) : Int) := by
      clear hr1 hd hm huv e0 w1
      rw [w64_id (n := (40 : Int) + (n : Int)) (by omega) (by omega), w64_id (n := (32 : Int) * (i : Int)) (by omega) (by omega), w64_id (by omega) (by omega)]; omega
    have s1 : lslice sig (((8 + n + 32 * i : Nat) : Int)) (((8 + n + 32 * i + 32 : Nat) : Int)) = some ((sig.drop (8 + n + 32 * i)).take 32) := by
      rw [lslice_at rfl rfl (by omega) (by clear hr1 w1 w2; omega), List.drop_take, Nat.add_sub_cancel_left]
    have q1 : (hat sig (8 + n + 32 * i)).toList.length = 32 := by simp
    have q2 : x.toList.length = 32 := by simp
    rw [loopS_next (s' := (((r / 2 : Nat) : Int), ((i + 1 : Nat) : Int), if r % 2 = 1 then ndh id (r / 2) 33667 ((hat sig (8 + n + 32 * i)).toList ++ x.toList) else ndh id (r / 2) 33667 (x.toList ++ (hat sig (8 + n + 32 * i)).toList))) (by
      simp only [rolodexref05_Verify_L1]
      rw [hr1, if_t (by clear hr1 w1 w2; rw [decide_eq_true_eq]; omega), w1, w2, bind_some' s1, bind_some' (hat_eq sig _ (by clear hr1 w1 w2; omega)), hm, hd]
      clear hr1 w1 w2 hm hd huv s1
      rw [w64_id (n := ((r / 2 : Nat) : Int)) (by omega) (by omega), w64_id (n := (i : Int) + 1) (by omega) (by omega)]
      by_cases c : r % 2 = 1
      · have n1 : rolodexref05_Node id ((r / 2 : Nat) : Int) (33667 : Int) _ = _ := rNode5_eq id (r / 2) 33667 ((hat sig (8 + n + 32 * i)).toList ++ x.toList) (by rw [List.length_append, q1, q2]; omega)
        rw [if_f (by rw [decide_eq_true_eq]; omega), bind_some' (two_eq _ _), bind_some' n1, if_pos c]; rfl
      · have n1 : rolodexref05_Node id ((r / 2 : Nat) : Int) (33667 : Int) _ = _ := rNode5_eq id (r / 2) 33667 (x.toList ++ (hat sig (8 + n + 32 * i)).toList) (by rw [List.length_append, q1, q2]; omega)
        rw [if_t (by rw [decide_eq_true_eq]; omega), bind_some' (two_eq _ _), bind_some' n1, if_neg c]; rfl), huv]
    rfl
theorem w64_n4 (b : List (BitVec 8)) (i : Nat) : w64 ((val ((b.drop i).take 4)).toNat : Int) = (n4 b i : Int) := by
  have := n4_lt b i
  show w64 ((n4 b i : Nat) : Int) = _
  rw [w64_id (by omega) (by omega)]
theorem rsl4 (b : List (BitVec 8)) (lo hi : Int) (i : Nat) (h1 : lo = (i : Int)) (h2 : hi = ((i + 4 : Nat) : Int)) (h : i + 4 ≤ b.length) : lslice b lo hi = some ((b.drop i).take 4) := by
  rw [lslice_at h1 h2 (by omega) h, List.drop_take, Nat.add_sub_cancel_left]
theorem bv_le4 (b : List (BitVec 8)) (i : Nat) : (decide ((4#64) < val ((b.drop i).take 4))) = decide (4 < n4 b i) := by
  unfold n4
  simp only [decide_eq_decide, BitVec.lt_def]
  rfl
theorem rverify_eq (p msg sig : List (BitVec 8)) (hp : p.length ≤ 4000000000) (hm : msg.length ≤ 2000000000) (hs : sig.length ≤ 2000000000) : rolodexref05_Verify p msg sig = some (vrf p msg sig) := by
  unfold rolodexref05_Verify
  by_cases hl : p.length = 56
  · have v0 : ∀ (b : List (BitVec 8)) i, rolodexref01_Value ((b.drop i).take 4) = some (val ((b.drop i).take 4)) := fun b i => value_eq _ (by rw [List.length_take]; omega)
    rw [if_f (by simp [hl]), bind_some' (rsl4 p 0 4 0 rfl rfl (by omega)), bind_some' (v0 p 0), bind_some' (rsl4 p 4 8 4 rfl rfl (by omega)), bind_some' (v0 p 4), bv_le4, bv_le4, w64_n4, w64_n4]
    by_cases hb : (1 ≤ n4 p 0 ∧ n4 p 0 ≤ 4) ∧ (1 ≤ n4 p 4 ∧ n4 p 4 ≤ 4)
    · have hh : IsH (n4 p 0) := by unfold IsH; omega
      have hk : IsKind (n4 p 4) := by unfold IsKind; omega
      obtain ⟨hK1, hK2⟩ := KK_le hh
      have hsz : sizeN (n4 p 4) ≤ 100000 ∧ 36 ≤ sizeN (n4 p 4) := by have := chainsN_le hk; unfold sizeN; omega
      rw [if_f (by rw [decide_eq_true_eq]; omega), Option.bind_some, if_f (by rw [decide_eq_true_eq]; omega), bind_some' (rkeys_eq hh hk), Option.bind_some, if_f (by rw [decide_eq_true_eq]; omega), bind_some' (rsizeT_eq hh hk), Option.bind_some]
      by_cases hsl : sig.length = 8 + sizeN (n4 p 4) + 32 * n4 p 0
      · have s3 : lslice p (8 : Int) (24 : Int) = some ((p.drop 8).take 16) := by
          rw [lslice_at (lo := (8 : Int)) (hi := (24 : Int)) (a := 8) (b := 24) rfl rfl (by omega) (by omega), List.drop_take]
        have w1 : w64 ((4 : Int) + (sizeN (n4 p 4) : Int)) = ((4 + sizeN (n4 p 4) : Nat) : Int) := by rw [w64_id (by omega) (by omega)]; omega
        have w2 : w64 ((8 : Int) + (sizeN (n4 p 4) : Int)) = ((4 + sizeN (n4 p 4) + 4 : Nat) : Int) := by clear w1; rw [w64_id (by omega) (by omega)]; omega
        have c0 : (decide ((BitVec.ofInt 64 (KK (n4 p 0) : Int)) ≤ val ((sig.drop 0).take 4))) = decide (KK (n4 p 0) ≤ n4 sig 0) := by
          unfold n4
          simp only [decide_eq_decide, BitVec.le_def]
          rw [ofInt64, BitVec.toNat_ofNat, Nat.mod_eq_of_lt (by clear w1 w2; unfold n4 at hK2; omega)]
        have c1 : (decide (val ((sig.drop 4).take 4) = val ((p.drop 4).take 4))) = decide (n4 sig 4 = n4 p 4) := by
          unfold n4
          simp only [decide_eq_decide]
          exact ⟨fun h => by rw [h], fun h => BitVec.eq_of_toNat_eq h⟩
        have c2 : (decide (val ((sig.drop (4 + sizeN (n4 p 4))).take 4) = val ((p.drop 0).take 4))) = decide (n4 sig (4 + sizeN (n4 p 4)) = n4 p 0) := by
          unfold n4
          simp only [decide_eq_decide]
          exact ⟨fun h => by rw [h], fun h => BitVec.eq_of_toNat_eq h⟩
        have c3 : n4 ((sig.drop 4).take (sizeN (n4 p 4))) 0 = n4 sig 4 := by
          clear w1 w2 c0 c1 c2
          generalize sizeN (n4 p 4) = sn at hsz
          unfold n4
          rw [List.drop_zero, List.take_take, Nat.min_eq_left (by omega)]
        rw [if_f (by simp only [Bool.not_eq_true', decide_eq_false_iff_not, Decidable.not_not]; clear w1 w2; omega), bind_some' s3, bind_some' (idat_eq p 8 (by clear w1 w2; omega)), bind_some' (rsize_eq hk), bind_some' (rsl4 sig 0 4 0 rfl rfl (by clear w1 w2; omega)), bind_some' (v0 sig 0), bind_some' (rkeys_eq hh hk), c0]
        by_cases ht : isT (n4 p 0) (n4 p 4) sig
        · have ht' := ht
          unfold isT at ht'
          rw [c3] at ht'
          have hol : ((sig.drop 4).take (sizeN (n4 p 4))).length = sizeN (n4 p 4) := by clear w1 w2; rw [List.length_take, List.length_drop]; omega
          have hsig : IsSig (n4 p 4) ((sig.drop 4).take (sizeN (n4 p 4))) := ⟨hk, hol, c3.trans ht'.2.2⟩
          have s8 : lslice sig (4 : Int) (((4 + sizeN (n4 p 4) : Nat) : Int)) = some ((sig.drop 4).take (sizeN (n4 p 4))) := by
            rw [lslice_at (lo := (4 : Int)) (a := 4) rfl rfl (by omega) (by clear w1 w2; omega), List.drop_take, Nat.add_sub_cancel_left]
          have hq : (val ((sig.drop 0).take 4)).setWidth 32 = BitVec.ofNat 32 (n4 sig 0) := by
            unfold n4
            apply BitVec.eq_of_toNat_eq
            rw [BitVec.toNat_setWidth, BitVec.toNat_ofNat]
          have s11 : lslice p (24 : Int) (56 : Int) = some ((p.drop 24).take 32) := by
            rw [lslice_at (lo := (24 : Int)) (hi := (56 : Int)) (a := 24) (b := 56) rfl rfl (by omega) (by clear w1 w2; omega), List.drop_take]
          have n1 : rolodexref05_Node (idat p 8) ((KK (n4 p 0) + n4 sig 0 : Nat) : Int) (33410 : Int) _ = _ := rNode5_eq (idat p 8) (KK (n4 p 0) + n4 sig 0) 33410 (recov (n4 p 4) (idat p 8) (BitVec.ofNat 32 (n4 sig 0)) msg ((sig.drop 4).take (sizeN (n4 p 4)))).toList (by simp)
          obtain ⟨u, v, huv⟩ := rclimb_loop (idat p 8) sig (val ((p.drop 0).take 4)) (sizeN (n4 p 4)) (n4 p 0) (w64_n4 p 0) hb.1.2 hsz.1 hsl (n4 p 0) 0 (KK (n4 p 0) + n4 sig 0) FU (ndh (idat p 8) (KK (n4 p 0) + n4 sig 0) 33410 (recov (n4 p 4) (idat p 8) (BitVec.ofNat 32 (n4 sig 0)) msg ((sig.drop 4).take (sizeN (n4 p 4)))).toList) (by clear w1 w2; omega) (by clear w1 w2; omega) (fu_lt (by clear w1 w2; omega))
          have huv' : loopS (fun (s : Int × Int × T_api_Hash) => rolodexref05_Verify_L1 (val ((p.drop 0).take 4)) sig (sizeN (n4 p 4) : Int) (idat p 8) s.1 s.2.1 s.2.2) FU (((KK (n4 p 0) + n4 sig 0 : Nat) : Int), (0 : Int), _) = _ := huv
          have w3 : w64 ((KK (n4 p 0) : Int) + (n4 sig 0 : Int)) = ((KK (n4 p 0) + n4 sig 0 : Nat) : Int) := by clear w1 w2; rw [w64_id (by omega) (by omega)]; omega
          rw [if_f (by clear w1 w2 w3; rw [decide_eq_true_eq]; omega), bind_some' (rsl4 sig 4 8 4 rfl rfl (by clear w1 w2 w3; omega)), bind_some' (v0 sig 4), Option.bind_some, c1, if_f (by rw [decide_eq_true ht'.2.2]; decide), w1, w2, bind_some' (rsl4 sig _ _ (4 + sizeN (n4 p 4)) rfl rfl (by clear w1 w2 w3; omega)), bind_some' (v0 sig _), Option.bind_some, c2, if_f (by rw [decide_eq_true ht'.1]; decide), bind_some' s8, hq, bind_some' (rrecover_eq (idat p 8) _ msg _ hm hsig), bind_some' (rkeys_eq hh hk), w64_n4, w3, bind_some' n1, bind_some' huv', if_t rfl, bind_some' s11, List.drop_zero, bind_some' (same_eq _ _ (by simp)), Option.bind_some]
          refine congrArg some ?_
          unfold vrf
          simp only [decide_eq_decide]
          constructor
          · intro hc; exact ⟨hl, hb.1, hb.2, hsl, ht, hc⟩
          · intro hc; exact hc.2.2.2.2.2
        · have hv : vrf p msg sig = false := by
            unfold vrf
            rw [decide_eq_false (fun hc => ht hc.2.2.2.2.1)]
          rw [hv]
          unfold isT at ht
          rw [c3] at ht
          by_cases d1 : KK (n4 p 0) ≤ n4 sig 0
          · rw [if_t (decide_eq_true d1), Option.bind_some, if_t rfl, Option.bind_some, if_t rfl]
          · rw [if_f (by rw [decide_eq_true_eq]; exact d1), bind_some' (rsl4 sig 4 8 4 rfl rfl (by clear w1 w2; omega)), bind_some' (v0 sig 4), Option.bind_some, c1]
            by_cases d2 : n4 sig 4 = n4 p 4
            · rw [if_f (by rw [decide_eq_true d2]; decide), w1, w2, bind_some' (rsl4 sig _ _ (4 + sizeN (n4 p 4)) rfl rfl (by clear w1 w2; omega)), bind_some' (v0 sig _), Option.bind_some, c2]
              rw [if_t (by rw [decide_eq_false (fun d3 => ht ⟨d3, by clear w1 w2; omega, d2⟩)]; rfl)]
            · rw [if_t (by rw [decide_eq_false d2]; rfl), Option.bind_some, if_t rfl]
      · rw [if_t (by simp only [Bool.not_eq_true', decide_eq_false_iff_not]; omega)]
        refine congrArg some ?_
        unfold vrf
        rw [decide_eq_false (fun hc => hsl hc.2.2.2.1)]
    · have hv : vrf p msg sig = false := by
        unfold vrf
        rw [decide_eq_false (fun hc => hb ⟨hc.2.1, hc.2.2.1⟩)]
      rw [hv]
      by_cases d1 : 4 < n4 p 0
      · rw [if_t (decide_eq_true d1), Option.bind_some, if_t rfl, Option.bind_some, if_t rfl, Option.bind_some, if_t rfl]
      · rw [if_f (by rw [decide_eq_true_eq]; exact d1), Option.bind_some]
        by_cases d2 : 4 < n4 p 4
        · rw [if_t (decide_eq_true d2), Option.bind_some, if_t rfl, Option.bind_some, if_t rfl]
        · rw [if_f (by rw [decide_eq_true_eq]; exact d2), bind_some' (rkeys_no (by omega)), Option.bind_some, if_t (by rfl), Option.bind_some, if_t rfl]
  · rw [if_t (by simp; omega)]
    refine congrArg some ?_
    unfold vrf
    rw [decide_eq_false (fun hc => hl hc.1)]
end Go.Sl.Pu
