import Derived.Test.YtheldkljmefbaaaGreatDoorG1
import Derived.WalkKit
import Derived.RangeFuncKeeps
import Derived.OrdersIn
import Derived.LoopNIn
import Derived.DefersIn
set_option linter.unusedSimpArgs false
set_option linter.unusedVariables false
set_option maxRecDepth 20000
namespace Go.Sl.Pu
open Go.Sl Go.Sl.M
attribute [local irreducible] sha w64 Qdg und UR ndh Qbn val hat
theorem Qi5 (a b : List (BitVec 8)) (ha : a.length ≤ 4294967296) : Yy a b = some (decide (a = b)) := by
 unfold Yy
 by_cases hl : a.length = b.length
 ·rw [QV (by simp [hl])]
  have h1 := Qk1 (f := fun (s : Int) => Zp a b s) a b hl (by omega) (fun i h1 h2 => by
   simp only [Zp]
   rw [QQ (by rw [decide_eq_true_eq]; omega), Qc (Ju rfl h1), Qc (Ju rfl h2), Jm (by omega) (by omega)]
   by_cases he : a[i] = b[i]
   ·rw [QV (by simp [he]), if_pos he]
   ·rw [QQ (by simp [he]), if_neg he]) (by
   simp only [Zp]
   rw [QV (by rw [decide_eq_true_eq]; omega)])
  rw [Qc h1]
  by_cases hab : a = b
  ·rw [if_pos hab, decide_eq_true hab]
  ·rw [if_neg hab, decide_eq_false hab]
 ·rw [QQ (by simp; omega), decide_eq_false (fun h => hl (by rw [h]))]
def n4 (b : List (BitVec 8)) (i : Nat) : Nat := (val ((b.drop i).take 4)).toNat
theorem QlH (b : List (BitVec 8)) (i : Nat) : n4 b i < 4294967296 := by
 have := Qjm ((b.drop i).take 4) 4 (by simp; omega) (by omega)
 unfold n4
 have h32 : (2 : Nat) ^ (8 * 4) = 4294967296 := by decide
 omega
theorem Qfc (b : List (BitVec 8)) (i : Nat) : (((val ((b.drop i).take 4)).setWidth 32).toNat : Int) = (n4 b i : Int) := by
 have := QlH b i
 unfold n4 at this ⊢
 rw [BitVec.toNat_setWidth, Nat.mod_eq_of_lt (by omega)]
theorem US (b : List (BitVec 8)) (i : Nat) (h : i + 4 ≤ b.length) : Jb (b.drop i, false) = some ((b.drop (i + 4), false), (val ((b.drop i).take 4)).setWidth 32) := by
 rw [QgP _ (by rw [List.length_drop]; omega), List.drop_drop]
theorem VB (b : List (BitVec 8)) (i n : Nat) (h : i + n ≤ b.length) : QR (b.drop i, false) (n : Int) = some ((b.drop (i + n), false), (b.drop i).take n) := by
 rw [QaU _ n (by rw [List.length_drop]; omega), List.drop_drop]
def QaI (b : List (BitVec 8)) (p h : Nat) : List Qa := (List.range h).map fun i => hat b (p + 32 * i)
theorem Qh9 (b : List (BitVec 8)) (p h : Nat) : QaI b p (h + 1) = QaI b p h ++ [hat b (p + 32 * h)] := by simp [QaI, List.range_succ]
theorem QeP (b : List (BitVec 8)) (p h : Nat) : (QaI b p h).length = h := by simp [QaI]
theorem Qf8 {h k : Nat} (hh : IsH h) (hk : JU k) (b : List (BitVec 8)) (hl : b.length ≠ 8 + JN k + 32 * h) : Kr b (h : Int) (k : Int) = some ((0, [], []), false) := by
 unfold Kr
 rw [Qc (QaQ hh hk), QQ (by
  simp only [Bool.not_eq_true', decide_eq_false_iff_not]
  omega), Option.bind_some]
theorem QhP {h k : Nat} (hh : IsH h) (hk : JU k) (b : List (BitVec 8)) (hl : b.length = 8 + JN k + 32 * h) :
  Kr b (h : Int) (k : Int) = some (((n4 b 0 : Int), (b.drop 4).take (JN k), QaI b (8 + JN k) h), decide (n4 b (4 + JN k) = h ∧ n4 b 0 < KK h ∧ n4 ((b.drop 4).take (JN k)) 0 = k)) := by
 unfold Kr
 have hhl := Wf hh
 have hsz : JN k ≤ 100000 ∧ 36 ≤ JN k := by have := VM hk; unfold JN; omega
 rw [Qc (QaQ hh hk), QV (by
  simp only [Bool.not_eq_true', decide_eq_false_iff_not, Decidable.not_not]
  omega)]
 have r1 := US b 0 (by omega)
 have r2 := VB b 4 (JN k) (by omega)
 have r3 := US b (4 + JN k) (by omega)
 rw [show (0 : Nat) + 4 = 4 from rfl] at r1
 rw [show 4 + JN k + 4 = 8 + JN k by omega] at r3
 rw [Qc (qh b (by omega))]
 simp only []
 rw [show Jb (b, false) = _ from r1, Option.bind_some]
 simp only []
 rw [Qc (QdL hk), Qc r2]
 simp only []
 rw [Qc r3]
 simp only []
 have hloop := JB (f := fun (s : Int × (List (BitVec 8)) × Bool × (List Qa)) => XS (h : Int) s.1 s.2.1 s.2.2.1 s.2.2.2) (fun i (_ : Unit) => ((i : Int), b.drop (8 + JN k + 32 * i), false, QaI b (8 + JN k) i)) (fun _ s => s) 0 h (fun i s h1 h2 => by
  simp only [XS]
  have r4 : QR (b.drop (8 + JN k + 32 * i), false) (32 : Int) = _ := VB b (8 + JN k + 32 * i) 32 (by omega)
  rw [QQ (by rw [decide_eq_true_eq]; omega), Qc r4]
  simp only []
  rw [Qc (Qi0 b (8 + JN k + 32 * i) (by omega)), QQ (by rw [QeP]; unfold AP; simp only [List.length_singleton]; omega), Jm (n := (i : Int) + 1) (by omega) (by omega), Qh9]
  rfl) (fun s => by
  simp only [XS]
  rw [QV (by rw [decide_eq_true_eq]; omega)]) FU () (by omega) (J7 (by omega))
 have hloop' : Q5 (fun (s : Int × (List (BitVec 8)) × Bool × (List Qa)) => XS (h : Int) s.1 s.2.1 s.2.2.1 s.2.2.2) FU ((0 : Int), b.drop (8 + JN k), false, ([] : List Qa)) = some ((h : Int), b.drop (8 + JN k + 32 * h), false, QaI b (8 + JN k) h) := hloop
 rw [Qc hloop']
 simp only []
 have hd : Vb (b.drop (8 + JN k + 32 * h), false) = some true := by
  unfold Vb Zm Zw
  rw [Option.bind_some, Option.bind_some, QQ (by rfl), Option.bind_some, decide_eq_true (by rw [List.length_drop]; omega), Option.bind_some]
 rw [Qc hd, QQ rfl]
 have e1 : (((val (List.take 4 (List.drop (4 + JN k) b))).setWidth 32).toNat : Int) = (n4 b (4 + JN k) : Int) := Qfc b _
 have e2 : (((val (List.take 4 (List.drop 0 b))).setWidth 32).toNat : Int) = (n4 b 0 : Int) := Qfc b 0
 rw [e1, e2, Option.bind_some]
 have hq : (n4 ((b.drop 4).take (JN k)) 0 : Int) = (((val (List.take 4 (List.drop 0 ((b.drop 4).take (JN k))))).setWidth 32).toNat : Int) := (Qfc _ 0).symm
 have hol : ((b.drop 4).take (JN k)).length = JN k := by rw [List.length_take, List.length_drop]; omega
 have r5 := US ((b.drop 4).take (JN k)) 0 (by omega)
 by_cases c1 : n4 b (4 + JN k) = h
 ·rw [QQ (by rw [decide_eq_true_eq, c1]), QQ (by omega), Option.bind_some, B4 hh]
  by_cases c2 : n4 b 0 < KK h
  ·rw [QQ (by rw [decide_eq_true_eq]; omega), Qc (qh _ (by omega))]
   simp only []
   rw [show Jb ((b.drop 4).take (JN k), false) = _ from r5, Option.bind_some, Option.bind_some]
   simp only []
   rw [← hq]
   refine congrArg some (Prod.ext rfl ?_)
   simp only [decide_eq_decide]
   constructor
   ·intro hc; exact ⟨c1, c2, by omega⟩
   ·intro hc; have := hc.2.2; omega
  ·rw [QV (by rw [decide_eq_true_eq]; omega), Option.bind_some]
   refine congrArg some (Prod.ext rfl ?_)
   simp only []
   rw [decide_eq_false (fun hc => c2 hc.2.1)]
 ·rw [QV (by rw [decide_eq_true_eq]; omega), Option.bind_some, QV (by decide), Option.bind_some]
  refine congrArg some (Prod.ext rfl ?_)
  simp only []
  rw [decide_eq_false (fun hc => c1 hc.1)]
def Qa9 (id : QO) : Nat → Qa → List Qa → Qa
 | _, h, [] => h
 | r, h, x :: l => Qa9 id (r / 2) (if r % 2 = 1 then ndh id (r / 2) 33667 (x.toList ++ h.toList) else ndh id (r / 2) 33667 (h.toList ++ x.toList)) l
theorem QfZ (id : QO) (P : List Qa) (hP : P.length ≤ 1000) : ∀ (l : List Qa) (i r fuel : Nat) (h : Qa), P.drop i = l → i + l.length = P.length → r ≤ 1000000 → l.length < fuel →
  ∃ u v, Q5 (fun (s : Int × Int × Qa) => Vm P id s.1 s.2.1 s.2.2) fuel ((r : Int), (i : Int), h) = some (u, v, Qa9 id r h l) := by
 intro l
 induction l with
 | nil =>
  intro i r fuel h h1 hi hr hfu
  obtain ⟨fuel, rfl⟩ : ∃ m, fuel = m + 1 := ⟨fuel - 1, by omega⟩
  simp only [List.length_nil] at hi
  exact ⟨(r : Int), (i : Int), Xj (by
   simp only [Vm]
   rw [QV (by rw [decide_eq_true_eq]; omega)]; rfl)⟩
 | cons x l ih =>
  intro i r fuel h h1 hi hr hfu
  obtain ⟨fuel, rfl⟩ : ∃ m, fuel = m + 1 := ⟨fuel - 1, by omega⟩
  simp only [List.length_cons] at hi hfu
  have hi1 : i < P.length := by omega
  rw [List.drop_eq_getElem_cons hi1] at h1
  injection h1 with h1 h1'
  have hd : Int.tdiv (r : Int) 2 = ((r / 2 : Nat) : Int) := (Int.ofNat_tdiv r 2).symm
  have hm : Int.tmod (r : Int) 2 = ((r % 2 : Nat) : Int) := (Int.ofNat_tmod r 2).symm
  obtain ⟨u, v, huv⟩ := ih (i + 1) (r / 2) fuel (if r % 2 = 1 then ndh id (r / 2) 33667 (x.toList ++ h.toList) else ndh id (r / 2) 33667 (h.toList ++ x.toList)) h1' (by omega) (by omega) (by omega)
  refine ⟨u, v, ?_⟩
  rw [YK (s' := (((r / 2 : Nat) : Int), ((i + 1 : Nat) : Int), if r % 2 = 1 then ndh id (r / 2) 33667 (x.toList ++ h.toList) else ndh id (r / 2) 33667 (h.toList ++ x.toList))) (by
   simp only [Vm]
   rw [QQ (by rw [decide_eq_true_eq]; omega), Qc (Ju rfl hi1), h1, hm, hd]
   clear hm hd huv
   rw [Jm (n := ((r / 2 : Nat) : Int)) (by omega) (by omega), Jm (n := (i : Int) + 1) (by omega) (by omega)]
   by_cases c : r % 2 = 1
   ·rw [QQ (by rw [decide_eq_true_eq]; omega), Option.bind_some, Qc (Qa1 id (r / 2) _ _), if_pos c]; rfl
   ·rw [QV (by rw [decide_eq_true_eq]; omega), Option.bind_some, Qc (Qa1 id (r / 2) _ _), if_neg c]; rfl), huv]
  rfl
theorem Qij (id : QO) (r : Nat) (hr : r ≤ 1000000) (h : Qa) (P : List Qa) (hP : P.length ≤ 1000) : WY id (r : Int) h P = some (Qa9 id r h P) := by
 unfold WY
 obtain ⟨u, v, huv⟩ := QfZ id P hP P 0 r FU h rfl (by omega) hr (J7 (by omega))
 have huv' : Q5 (fun (s : Int × Int × Qa) => Vm P id s.1 s.2.1 s.2.2) FU ((r : Int), (0 : Int), h) = _ := huv
 rw [Qc huv']
def QbN (b : List (BitVec 8)) (off : Nat) : QO := Vector.ofFn fun j : Fin 16 => b.getD (off + j.val) 0#8
theorem QbF (b : List (BitVec 8)) (off : Nat) (h : off + 16 ≤ b.length) : (QbN b off).toList = (b.drop off).take 16 := by
 apply List.ext_getElem?
 intro i
 rw [List.getElem?_take]
 by_cases hi : i < 16
 ·rw [if_pos hi, List.getElem?_drop]
  have h2 : off + i < b.length := by omega
  have : (QbN b off).toList[i]? = some (b.getD (off + i) 0#8) := by
   unfold QbN
   rw [List.getElem?_eq_getElem (by simp; exact hi)]
   simp
  rw [this]; simp [h2]
 ·rw [if_neg hi, List.getElem?_eq_none (by simp; omega)]
theorem QdY (b : List (BitVec 8)) (off : Nat) (h : off + 16 ≤ b.length) : Wi 16 ((b.drop off).take 16) = some (QbN b off) := by
 have hl : 16 ≤ ((b.drop off).take 16).length := by simp; omega
 unfold Wi
 rw [dif_pos hl]
 refine congrArg some (Vector.toList_inj.1 ?_)
 rw [W2, QbF b off h, List.take_take, Nat.min_self]
def QkQ (h k : Nat) (id : QO) (msg sig : List (BitVec 8)) : Qa :=
 Qa9 id (KK h + n4 sig 0) (ndh id (KK h + n4 sig 0) 33410 (Qbn k id (BitVec.ofNat 32 (n4 sig 0)) msg ((sig.drop 4).take (JN k))).toList) (QaI sig (8 + JN k) h)
def isT (h k : Nat) (sig : List (BitVec 8)) : Prop := n4 sig (4 + JN k) = h ∧ n4 sig 0 < KK h ∧ n4 ((sig.drop 4).take (JN k)) 0 = k
instance (h k : Nat) (sig : List (BitVec 8)) : Decidable (isT h k sig) := by unfold isT; infer_instance
def vrf (p msg sig : List (BitVec 8)) : Bool :=
 decide (p.length = 56 ∧ (1 ≤ n4 p 0 ∧ n4 p 0 ≤ 4) ∧ (1 ≤ n4 p 4 ∧ n4 p 4 ≤ 4) ∧ sig.length = 8 + JN (n4 p 4) + 32 * n4 p 0 ∧ isT (n4 p 0) (n4 p 4) sig ∧ (QkQ (n4 p 0) (n4 p 4) (QbN p 8) msg sig).toList = (p.drop 24).take 32)
theorem qY (p msg sig : List (BitVec 8)) (hp : p.length ≤ 4000000000) (hm : msg.length ≤ 2000000000) (hs : sig.length ≤ 2000000000) : Ue p msg sig = some (vrf p msg sig) := by
 unfold Ue
 by_cases hl : p.length = 56
 ·rw [QV (by simp [hl]), Qc (qh p hp)]
  have r1 := US p 0 (by omega)
  have r2 := US p 4 (by omega)
  have r3 : QR (p.drop 8, false) (16 : Int) = _ := VB p 8 16 (by omega)
  have r4 : QR (p.drop 24, false) (32 : Int) = _ := VB p 24 32 (by omega)
  simp only []
  rw [show Jb (p, false) = _ from r1, Option.bind_some]
  simp only []
  rw [show Jb (p.drop (0 + 4), false) = _ from r2, Option.bind_some]
  simp only []
  rw [show QR (p.drop (4 + 4), false) (16 : Int) = _ from r3, Option.bind_some]
  simp only []
  rw [Qc (QdY p 8 (by omega)), show QR (p.drop (8 + 16), false) (32 : Int) = _ from r4, Option.bind_some]
  simp only []
  have e1 : (((val (List.take 4 (List.drop 0 p))).setWidth 32).toNat : Int) = (n4 p 0 : Int) := Qfc p 0
  have e2 : (((val (List.take 4 (List.drop 4 p))).setWidth 32).toNat : Int) = (n4 p 4 : Int) := Qfc p 4
  rw [e1, e2]
  by_cases hb : (1 ≤ n4 p 0 ∧ n4 p 0 ≤ 4) ∧ (1 ≤ n4 p 4 ∧ n4 p 4 ≤ 4)
  ·have hh : IsH (n4 p 0) := by unfold IsH; omega
   have hk : JU (n4 p 4) := by unfold JU; omega
   rw [Qc (QdS hh hk), QV (by decide)]
   obtain ⟨hK1, hK2⟩ := BN hh
   by_cases hsl : sig.length = 8 + JN (n4 p 4) + 32 * n4 p 0
   ·rw [Qc (QhP hh hk sig hsl)]
    simp only []
    by_cases ht : isT (n4 p 0) (n4 p 4) sig
    ·have ht' := ht
     unfold isT at ht'
     have hsz : 36 ≤ JN (n4 p 4) := by unfold JN; omega
     have hol : ((sig.drop 4).take (JN (n4 p 4))).length = JN (n4 p 4) := by rw [List.length_take, List.length_drop]; omega
     have qM : Qje (n4 p 4) ((sig.drop 4).take (JN (n4 p 4))) := ⟨hk, hol, ht'.2.2⟩
     rw [QV (by rw [decide_eq_true ht']; decide), Up, Qc (QfP (QbN p 8) _ msg _ hm qM), QV (by simp), QQ (by omega), B4 hh, Option.bind_some,
      show w64 ((KK (n4 p 0) : Int) + (n4 sig 0 : Int)) = ((KK (n4 p 0) + n4 sig 0 : Nat) : Int) by rw [Jm (by omega) (by omega)]; omega, Qc (Qfw _ _ _), Qc (Qij _ _ (by omega) _ _ (by rw [QeP]; omega)), Qc (Qi5 _ _ (by simp))]
     refine congrArg some ?_
     unfold vrf
     simp only [decide_eq_decide]
     constructor
     ·intro hc; exact ⟨hl, hb.1, hb.2, hsl, ht, hc⟩
     ·intro hc; exact hc.2.2.2.2.2
    ·have ht' := ht
     unfold isT at ht'
     rw [QQ (by rw [decide_eq_false ht']; rfl)]
     refine congrArg some ?_
     unfold vrf
     rw [decide_eq_false (fun hc => ht hc.2.2.2.2.1)]
   ·rw [Qc (Qf8 hh hk sig hsl), QQ (by rfl)]
    refine congrArg some ?_
    unfold vrf
    rw [decide_eq_false (fun hc => hsl hc.2.2.2.1)]
  ·rw [Qc (QgK (by omega)), QQ (by rfl)]
   refine congrArg some ?_
   unfold vrf
   rw [decide_eq_false (fun hc => hb ⟨hc.2.1, hc.2.2.1⟩)]
 ·rw [QQ (by simp; omega)]
  refine congrArg some ?_
  unfold vrf
  rw [decide_eq_false (fun hc => hl hc.1)]
end Go.Sl.Pu
set_option maxRecDepth 20000
namespace Go.Sl.Pu
open Go.Sl Go.Sl.M
attribute [local irreducible] sha w64 Qdg und UR ndh Qbn val hat
theorem QaS (A B : List (BitVec 8)) (x i : Nat) (hx : x < 4294967296) (hA : A.length = i) : n4 (A ++ (be (BitVec.ofNat 32 x) 4 ++ B)) i = x := by
 unfold n4
 rw [← hA, List.drop_left, List.take_append_of_le_length (by rw [JG]; exact Nat.le_refl _), List.take_of_length_le (by rw [JG]; exact Nat.le_refl _), QfE, BitVec.toNat_setWidth, BitVec.toNat_ofNat]
 omega
theorem QjK (A B : List (BitVec 8)) (x : Qa) (i : Nat) (hA : A.length = i) : hat (A ++ (x.toList ++ B)) i = x := by
 apply Vector.toList_inj.1
 rw [q6 _ _ (by rw [List.length_append, List.length_append, Vector.length_toList]; omega), ← hA, List.drop_left, List.take_left' (by simp)]
theorem Qim (A B : List (BitVec 8)) (x : QO) (i : Nat) (hA : A.length = i) : QbN (A ++ (x.toList ++ B)) i = x := by
 apply Vector.toList_inj.1
 rw [QbF _ _ (by rw [List.length_append, List.length_append, Vector.length_toList]; omega), ← hA, List.drop_left, List.take_left' (by simp)]
theorem QhI (b : List (BitVec 8)) (p h : Nat) : QaI b p (h + 1) = hat b p :: QaI b (p + 32) h := by
 unfold QaI
 rw [List.range_succ_eq_map, List.map_cons, List.map_map]
 refine congrArg (List.cons (hat b p)) ?_
 apply List.map_congr_left
 intro i _
 show hat b (p + 32 * (i + 1)) = hat b (p + 32 + 32 * i)
 rw [show p + 32 * (i + 1) = p + 32 + 32 * i by omega]
theorem Qe4 : ∀ (l : List Qa) (A : List (BitVec 8)) (p : Nat), A.length = p → QaI (A ++ Qcz l) p l.length = l
 | [], A, p, h => rfl
 | x :: l, A, p, h => by
  rw [List.length_cons, QhI]
  have e : Qcz (x :: l) = x.toList ++ Qcz l := rfl
  rw [e, QjK A _ x p h, ← List.append_assoc, Qe4 l (A ++ x.toList) (p + 32) (by rw [List.length_append, Vector.length_toList, h])]
theorem Qhv (k : Nat) (id : QO) (seed : Qa) (K : Nat) : ∀ (n r : Nat), r ≤ n → 0 < r → r < 2 * K → Qa9 id r (tv k id seed K r) (pth (tv k id seed K) r) = tv k id seed K 1 := by
 intro n
 induction n with
 | zero => intro r h1 h2; omega
 | succ n ih =>
  intro r h1 h2 h3
  by_cases hr : 1 < r
  ·rw [QcY _ hr]
   show Qa9 id (r / 2) (if r % 2 = 1 then _ else _) (pth (tv k id seed K) (r / 2)) = _
   have e : (if r % 2 = 1 then ndh id (r / 2) 33667 ((tv k id seed K (sib r)).toList ++ (tv k id seed K r).toList) else ndh id (r / 2) 33667 ((tv k id seed K r).toList ++ (tv k id seed K (sib r)).toList)) = tv k id seed K (r / 2) := by
    rw [QeE k id seed K (r := r / 2) (by omega) (by omega)]
    by_cases c : r % 2 = 1
    ·rw [if_pos c, show sib r = 2 * (r / 2) by unfold sib; omega]
     conv => lhs; rw [show r = 2 * (r / 2) + 1 by omega]
     rw [show (2 * (r / 2) + 1) / 2 = r / 2 by omega]
    ·rw [if_neg c, show sib r = 2 * (r / 2) + 1 by unfold sib; omega]
     conv => lhs; rw [show r = 2 * (r / 2) by omega]
     rw [show (2 * (r / 2)) / 2 = r / 2 by omega]
   rw [e]
   exact ih (r / 2) (by omega) (by omega) (by omega)
  ·have : r = 1 := by omega
   subst this
   rw [Qec _ hr]; rfl
theorem Qc6 {h k : Nat} (hh : IsH h) (hk : JU k) (id : QO) (seed : Qa) : n4 (KH h k id seed) 0 = h ∧ n4 (KH h k id seed) 4 = k ∧ QbN (KH h k id seed) 8 = id ∧ ((KH h k id seed).drop 24).take 32 = (tv k id seed (KK h) 1).toList := by
 have h1 := Wf hh
 have h2 := Qgy hk
 refine ⟨?_, ?_, ?_, ?_⟩
 ·have := QaS [] ((be (BitVec.ofNat 32 k) 4 ++ id.toList) ++ (tv k id seed (KK h) 1).toList) h 0 (by omega) rfl
  unfold KH
  simpa [List.append_assoc] using this
 ·have := QaS (be (BitVec.ofNat 32 h) 4) (id.toList ++ (tv k id seed (KK h) 1).toList) k 4 (by omega) (JG _ _)
  unfold KH
  simpa [List.append_assoc] using this
 ·have := Qim (be (BitVec.ofNat 32 h) 4 ++ be (BitVec.ofNat 32 k) 4) ((tv k id seed (KK h) 1).toList) id 8 (by rw [List.length_append, JG, JG])
  unfold KH
  simpa [List.append_assoc] using this
 ·unfold KH
  rw [List.drop_left' (by rw [List.length_append, List.length_append, JG, JG, Vector.length_toList]), List.take_of_length_le (by simp)]
theorem Qdy {h k : Nat} (hh : IsH h) (hk : JU k) (id : QO) (seed : Qa) (q : Nat) (hq : q < KK h) (msg : List (BitVec 8)) : vrf (KH h k id seed) msg (Wm h k id seed q msg) = true := by
 obtain ⟨p1, p2, p3, p4⟩ := Qc6 hh hk id seed
 obtain ⟨hK1, hK2⟩ := BN hh
 have h1 := Wf hh
 have h2 := Qgy hk
 have hl := Wg (k := k) id seed q hq msg
 have sl := BD (k := k) id (BitVec.ofNat 32 q) seed msg
 have e0 : n4 (Wm h k id seed q msg) 0 = q := by
  have := QaS [] ((UR k id (BitVec.ofNat 32 q) seed msg ++ be (BitVec.ofNat 32 h) 4) ++ Qcz (pth (tv k id seed (KK h)) (KK h + q))) q 0 (by omega) rfl
  unfold Wm
  simpa [List.append_assoc] using this
 have e1 : ((Wm h k id seed q msg).drop 4).take (JN k) = UR k id (BitVec.ofNat 32 q) seed msg := by
  unfold Wm
  rw [List.append_assoc, List.append_assoc, List.drop_left' (JG _ _), List.take_left' sl]
 have e2 : n4 (Wm h k id seed q msg) (4 + JN k) = h := by
  have := QaS (be (BitVec.ofNat 32 q) 4 ++ UR k id (BitVec.ofNat 32 q) seed msg) (Qcz (pth (tv k id seed (KK h)) (KK h + q))) h (4 + JN k) (by omega) (by rw [List.length_append, JG, sl])
  unfold Wm
  rw [List.append_assoc]
  exact this
 have e3 : n4 (UR k id (BitVec.ofNat 32 q) seed msg) 0 = k := by
  have := (Qi7 hk id (BitVec.ofNat 32 q) seed msg).2.2
  unfold n4
  rw [List.drop_zero]
  exact this
 have pl : (pth (tv k id seed (KK h)) (KK h + q)).length = h := Qha _ h _ (by unfold KK; omega) (by rw [Nat.pow_succ]; unfold KK at hq ⊢; omega)
 have e4 : QaI (Wm h k id seed q msg) (8 + JN k) h = pth (tv k id seed (KK h)) (KK h + q) := by
  have := Qe4 (pth (tv k id seed (KK h)) (KK h + q)) ((be (BitVec.ofNat 32 q) 4 ++ UR k id (BitVec.ofNat 32 q) seed msg) ++ be (BitVec.ofNat 32 h) 4) (8 + JN k) (by rw [List.length_append, List.length_append, JG, JG, sl]; omega)
  rw [pl] at this
  exact this
 unfold vrf
 rw [p1, p2, p3, p4]
 rw [decide_eq_true]
 refine ⟨WS _ _ _ _, by omega, by omega, hl, ⟨e2, by rw [e0]; exact hq, by rw [e1]; exact e3⟩, ?_⟩
 refine congrArg Vector.toList ?_
 unfold QkQ
 rw [e0, e1, e4, Qf0 hk]
 have el : ndh id (KK h + q) 33410 (Qdg k id (BitVec.ofNat 32 q) seed).toList = tv k id seed (KK h) (KK h + q) := by
  rw [Qhd _ _ _ _ (Nat.le_add_right _ _)]
  unfold lfv
  rw [Nat.add_sub_cancel_left]
 rw [el]
 exact Qhv k id seed (KK h) (KK h + q) (KK h + q) (Nat.le_refl _) (by omega) (by omega)
end Go.Sl.Pu
set_option maxRecDepth 20000
namespace Go.Sl.Pu
open Go.Sl Go.Sl.M
theorem Qer {n : Nat} (h : n ≤ 4294967296) : n ≤ AP := h
theorem Qik (n : Nat) (h : n ≤ 4294967296) : JX (n : Int) = some [] := by
 unfold JX
 rw [QV (by rw [decide_eq_true_eq]; omega), show w64 ((0 : Int) - 0) = 0 from rfl, Jm (n := (n : Int) - 0) (by omega) (by omega), Option.bind_some]
 by_cases h0 : 0 < n
 ·rw [QQ (by rw [decide_eq_true_eq]; omega), QQ ⟨by omega, by omega⟩, QQ ⟨by omega, by omega⟩]; simp
 ·rw [QV (by rw [decide_eq_true_eq]; omega)]
theorem QcC (L : List (List (BitVec 8))) (h : L.flatten.length ≤ 4000000000) (hL : L.length ≤ 1000) : JR L = some L.flatten := by
 unfold JR
 have hpre : ∀ i, i ≤ L.length → (L.take i).flatten.length ≤ 4000000000 := fun i hi => by
  have : L.flatten.length = (L.take i).flatten.length + (L.drop i).flatten.length := by
   rw [← List.length_append, ← List.flatten_append, List.take_append_drop]
  omega
 have hsucc : ∀ i (hi : i < L.length), (L.take (i + 1)).flatten = (L.take i).flatten ++ L[i] := fun i hi => by
  rw [List.take_succ_eq_append_getElem hi, List.flatten_append]; simp
 have h1 := JB (f := fun (s : Int × Int) => Jj L s.1 s.2) (fun i (_ : Unit) => ((((L.take i).flatten.length : Nat) : Int), (i : Int))) (fun _ s => s) 0 L.length (fun i s _ hi => by
  simp only [Jj]
  have h2 := hpre (i + 1) hi
  have h3 : (L.take (i + 1)).flatten.length = (L.take i).flatten.length + L[i].length := by rw [hsucc i hi, List.length_append]
  rw [QQ (by rw [decide_eq_true_eq]; omega), Qc (Ju rfl hi), Jm (n := (((L.take i).flatten.length : Nat) : Int) + (L[i].length : Int)) (by omega) (by omega), QV (by rw [decide_eq_true_eq]; omega), Jm (n := (i : Int) + 1) (by omega) (by omega), h3]
  rfl) (fun s => by
  simp only [Jj]
  rw [QV (by rw [decide_eq_true_eq]; omega)]) FU () (by omega) (J7 (by omega))
 have h1' : Q5 (fun (s : Int × Int) => Jj L s.1 s.2) FU ((0 : Int), (0 : Int)) = some ((((L.take L.length).flatten.length : Nat) : Int), (L.length : Int)) := h1
 rw [Qc h1', Qc (Qik _ (by have := hpre L.length (Nat.le_refl _); omega))]
 have h4 := JB (f := fun (s : Int × (List (BitVec 8))) => Ji L s.1 s.2) (fun i (_ : Unit) => ((i : Int), (L.take i).flatten)) (fun _ s => s) 0 L.length (fun i s _ hi => by
  simp only [Ji]
  have h2 := hpre (i + 1) hi
  have h3 : (L.take (i + 1)).flatten.length = (L.take i).flatten.length + L[i].length := by rw [hsucc i hi, List.length_append]
  rw [QQ (by rw [decide_eq_true_eq]; omega), Qc (Ju rfl hi), QQ (Qer (by omega)), Jm (n := (i : Int) + 1) (by omega) (by omega), hsucc i hi]
  rfl) (fun s => by
  simp only [Ji]
  rw [QV (by rw [decide_eq_true_eq]; omega)]) FU () (by omega) (J7 (by omega))
 have h4' : Q5 (fun (s : Int × (List (BitVec 8))) => Ji L s.1 s.2) FU ((0 : Int), ([] : List (BitVec 8))) = some ((L.length : Int), (L.take L.length).flatten) := h4
 rw [Qc h4', List.take_length]
end Go.Sl.Pu
set_option maxRecDepth 20000
namespace Go.Sl.Pu
open Go.Sl Go.Sl.M
attribute [local irreducible] sha w64 Qdg und UR ndh Qbn val hat qS KH Wm QbN BJ vrf
def tID (seed : Qa) : QO := QbN (qS 105#8 [seed.toList]).toList 0
def Wd (seed : Qa) : Qa := qS 115#8 [seed.toList]
def bID (seed : Qa) (i : Nat) : QO := QbN (qS 105#8 [seed.toList, be (BitVec.ofNat 32 i) 4]).toList 0
def VP (seed : Qa) (i : Nat) : Qa := qS 115#8 [seed.toList, be (BitVec.ofNat 32 i) 4]
theorem QlK (x : Qa) : YJ x.toList 0 (16 : Int) = some ((x.toList.drop 0).take 16) := by
 rw [Z9 (lo := (0 : Int)) (hi := (16 : Int)) (a := 0) (b := 16) rfl rfl (by omega) (by simp), List.drop_zero, List.drop_zero]
theorem Qig (seed : Qa) : KB seed [] = some (tID seed, Wd seed) := by
 unfold KB
 rw [QV (by simp), Option.bind_some, Qc (qc _ _ (by simp [VH])), Qc (QlK _), Qc (QdY _ 0 (by simp)), Qc (qc _ _ (by simp [VH]))]
 rfl
theorem Qj9 : ∀ i : Fin 16, ([BitVec.ofInt 8 (UY (i.val : Int) (24 : Int)), BitVec.ofInt 8 (UY (i.val : Int) (16 : Int)), BitVec.ofInt 8 (UY (i.val : Int) (8 : Int)), BitVec.ofInt 8 (i.val : Int)] : List (BitVec 8)) = be (BitVec.ofNat 32 i.val) 4 := by with_unfolding_all decide
theorem Qhs (seed : Qa) (i : Nat) (hi : i < 16) : KB seed [BitVec.ofInt 8 (UY (i : Int) (24 : Int)), BitVec.ofInt 8 (UY (i : Int) (16 : Int)), BitVec.ofInt 8 (UY (i : Int) (8 : Int)), BitVec.ofInt 8 (i : Int)] = some (bID seed i, VP seed i) := by
 rw [Qj9 ⟨i, hi⟩]
 unfold KB
 simp only []
 rw [QQ (by rw [decide_eq_true_eq, JG]; omega), QQ (Qer (by simp)), Option.bind_some]
 simp only [List.singleton_append]
 rw [Qc (qc _ _ (by simp [VH, JG])), Qc (QlK _), Qc (QdY _ 0 (by simp)), Qc (qc _ _ (by simp [VH, JG]))]
 rfl
abbrev Sg : Type := Int × Int × Qa × (Option Qy) × (Option Qy) × Int
def IsS (t b k : Nat) (seed : Qa) (s : Sg) : Prop :=
 s.1 = (b : Int) ∧ s.2.1 = (k : Int) ∧ s.2.2.1 = seed ∧ s.2.2.2.1 = trS t k (tID seed) (Wd seed) ∧ (s.2.2.2.2.2 = -1 ∨ ∃ i : Nat, i < KK t ∧ s.2.2.2.2.2 = (i : Int) ∧ s.2.2.2.2.1 = trS b k (bID seed i) (VP seed i))
theorem QkG {t b k : Nat} (ht : IsH t) (hb : IsH b) (hk : JU k) (seed : Qa) : ∃ s : Sg, B9 (t : Int) (b : Int) (k : Int) seed = some (some s, 0) ∧ IsS t b k seed s := by
 refine ⟨((b : Int), (k : Int), seed, trS t k (tID seed) (Wd seed), none, -1), ?_, rfl, rfl, rfl, rfl, .inl rfl⟩
 unfold B9
 rw [Qc (QaQ hb hk), QV (by rw [decide_eq_true_eq]; omega), Qc (Qig seed), Qc (QgG ht hk _ _), QV (by simp), Option.bind_some]
theorem Qjn {t b k : Nat} (ht : IsH t) (hb : IsH b) {seed : Qa} {s : Sg} (hs : IsS t b k seed s) : Vv s = some ((KK t * KK b : Nat) : Int) := by
 unfold Vv
 obtain ⟨h1, h2, h3, h4, h5⟩ := hs
 have hb1 := Wf hb
 obtain ⟨hK1, hK2⟩ := BN ht
 obtain ⟨hK3, hK4⟩ := BN hb
 have hm : KK t * KK b ≤ 16 * 16 := Nat.mul_le_mul hK2 hK4
 rw [h4, Qc (Qcq ht _ _), h1, QQ (by omega), Qfk (KK t) b (by omega) (by show KK t * KK b < _; omega)]
 rfl
def WH (t k : Nat) (seed : Qa) : List (BitVec 8) := [0#8, 0#8, 0#8, 2#8] ++ KH t k (tID seed) (Wd seed)
theorem QcK (t k : Nat) (seed : Qa) : (WH t k seed).length = 60 := by unfold WH; rw [List.length_append, WS]; rfl
theorem QcW {t b k : Nat} (ht : IsH t) {seed : Qa} {s : Sg} (hs : IsS t b k seed s) : Z1 s = some (WH t k seed) := by
 unfold Z1
 rw [hs.2.2.2.1, Qc (QcZ ht _ _), Qc (QcC _ (by simp [WS]) (by simp))]
 simp [WH]
theorem Qiv {t b k : Nat} (ht : IsH t) (hb : IsH b) (hk : JU k) {seed : Qa} {s : Sg} (hs : IsS t b k seed s) (i : Nat) (hi : i < KK t) : ∃ s' : Sg, Vu s (i : Int) = some (s', trS b k (bID seed i) (VP seed i), 0) ∧ IsS t b k seed s' := by
 obtain ⟨hK1, hK2⟩ := BN ht
 unfold Vu
 obtain ⟨s1, s2, s3, s4, s5, s6⟩ := s
 obtain ⟨h1, h2, h3, h4, h5⟩ := hs
 simp only [] at h1 h2 h3 h4 h5
 subst h1 h2 h3 h4
 by_cases he : s6 = (i : Int)
 ·rw [QQ (by simpa using he)]
  rcases h5 with h5 | ⟨j, hj, h5, h6⟩
  ·exfalso; omega
  ·have : j = i := by omega
   subst this
   exact ⟨_, by simp only []; rw [h6], rfl, rfl, rfl, rfl, .inr ⟨j, hj, h5, rfl⟩⟩
 ·rw [QV (by simpa using he)]
  refine ⟨((b : Int), (k : Int), s3, trS t k (tID s3) (Wd s3), trS b k (bID s3 i) (VP s3 i), (i : Int)), ?_, rfl, rfl, rfl, rfl, .inr ⟨i, hi, rfl, rfl⟩⟩
  rw [Qc (Qhs s3 i (by omega)), Qc (QgG hb hk _ _), QV (by simp)]
def qM (t b k : Nat) (seed : Qa) (n : Nat) (msg : List (BitVec 8)) : List (BitVec 8) :=
 (([0#8, 0#8, 0#8, 1#8] ++ Wm t k (tID seed) (Wd seed) (n / KK b) (KH b k (bID seed (n / KK b)) (VP seed (n / KK b)))) ++ KH b k (bID seed (n / KK b)) (VP seed (n / KK b))) ++ Wm b k (bID seed (n / KK b)) (VP seed (n / KK b)) (n % KK b) msg
theorem Qai {t b n : Nat} (hb : IsH b) (hn : n < KK t * KK b) : n / KK b < KK t ∧ n % KK b < KK b := by
 obtain ⟨hK3, hK4⟩ := BN hb
 exact ⟨Nat.div_lt_of_lt_mul (by rw [Nat.mul_comm]; exact hn), Nat.mod_lt _ (by omega)⟩
theorem Qe1 {t b k : Nat} (hb : IsH b) (seed : Qa) (n : Nat) (hn : n < KK t * KK b) (msg : List (BitVec 8)) : (qM t b k seed n msg).length = 4 + (8 + JN k + 32 * t) + 56 + (8 + JN k + 32 * b) := by
 obtain ⟨d1, d2⟩ := Qai hb hn
 unfold qM
 rw [List.length_append, List.length_append, List.length_append, Wg _ _ _ d1, Wg _ _ _ d2, WS]
 simp only [List.length_cons, List.length_nil]
theorem QiP {t b k : Nat} (ht : IsH t) (hb : IsH b) (hk : JU k) {seed : Qa} {s : Sg} (hs : IsS t b k seed s) (n : Nat) (hn : n < KK t * KK b) (msg : List (BitVec 8)) (hm : msg.length ≤ 2000000000) :
  ∃ s' : Sg, Vq s (n : Int) msg = some (s', qM t b k seed n msg, 0) ∧ IsS t b k seed s' := by
 obtain ⟨d1, d2⟩ := Qai hb hn
 obtain ⟨hK1, hK2⟩ := BN ht
 obtain ⟨hK3, hK4⟩ := BN hb
 have hb1 := Wf hb
 have hm2 : KK t * KK b ≤ 16 * 16 := Nat.mul_le_mul hK2 hK4
 obtain ⟨s', hs', hI⟩ := Qiv ht hb hk hs (n / KK b) d1
 refine ⟨s', ?_, hI⟩
 unfold Vq
 have e1 : UY (n : Int) (b : Int) = ((n / KK b : Nat) : Int) := QaA n b (by omega)
 have e2 : QfG (n : Int) (w64 (Xq (1 : Int) (b : Int) - 1)) = ((n % KK b : Nat) : Int) := by
  rw [B4 hb, show w64 ((KK b : Int) - 1) = ((2 ^ b - 1 : Nat) : Int) by rw [Jm (by omega) (by omega)]; show _ = ((KK b - 1 : Nat) : Int); omega]
  exact Qdu n b (by omega) (by omega)
 have hl1 := Wg (h := t) (k := k) (tID seed) (Wd seed) (n / KK b) d1 (KH b k (bID seed (n / KK b)) (VP seed (n / KK b)))
 have hl2 := Wg (h := b) (k := k) (bID seed (n / KK b)) (VP seed (n / KK b)) (n % KK b) d2 msg
 have hp := WS b k (bID seed (n / KK b)) (VP seed (n / KK b))
 have hsz : JN k ≤ 100000 := by have := VM hk; unfold JN; omega
 have htl := Wf ht
 rw [QV (by rw [decide_eq_true_eq]; clear e1 e2; omega), show ((s.1, s.2.1, s.2.2.1, s.2.2.2.1, s.2.2.2.2.1, s.2.2.2.2.2) : Sg) = s from rfl, Qc (Qjn ht hb hs), Option.bind_some, QV (by rw [decide_eq_true_eq]; clear e1 e2; omega), hs.1, QQ (by omega), QQ (by omega), e1, e2, Option.bind_some, Qc hs', QV (by simp)]
 simp only []
 rw [Qc (QcZ hb _ _), hI.2.2.2.1, Qc (QfI ht hk _ _ _ d1 _ (by rw [hp]; omega)), QV (by simp), Qc (QfI hb hk _ _ _ d2 _ hm), QV (by simp), Qc (QcC _ (by simp only [List.flatten_cons, List.flatten_nil, List.length_append, List.length_nil, List.length_cons]; rw [hl1, hl2, hp]; clear e1 e2; omega) (by simp))]
 refine congrArg some (Prod.ext ?_ (Prod.ext ?_ rfl))
 ·simp only []
  obtain ⟨a1, a2, a3, a4, a5, a6⟩ := s'
  have h4 := hI.2.2.2.1
  simp only [] at h4 ⊢
  rw [h4]
 ·simp [qM]
end Go.Sl.Pu
set_option maxRecDepth 20000
namespace Go.Sl.Pu
open Go.Sl Go.Sl.M
attribute [local irreducible] sha w64 Qdg und UR ndh Qbn val hat qS KH Wm QbN BJ vrf qM WH n4
def tN (p : List (BitVec 8)) : Nat := 8 + JN (n4 p 8) + 32 * n4 p 4
def okP (p : List (BitVec 8)) : Prop := (1 ≤ n4 p 4 ∧ n4 p 4 ≤ 4) ∧ (1 ≤ n4 p 8 ∧ n4 p 8 ≤ 4)
instance (p : List (BitVec 8)) : Decidable (okP p) := by unfold okP; infer_instance
def qp (p msg sig : List (BitVec 8)) : Bool :=
 decide (p.length = 60 ∧ n4 p 0 = 2 ∧ 4 ≤ sig.length ∧ n4 sig 0 = 1 ∧ okP p ∧ 60 + tN p ≤ sig.length ∧ vrf (p.drop 4) ((sig.drop (4 + tN p)).take 56) ((sig.drop 4).take (tN p)) = true ∧ vrf ((sig.drop (4 + tN p)).take 56) msg (sig.drop (60 + tN p)) = true)
theorem QbU (p : List (BitVec 8)) (i j : Nat) : n4 (p.drop i) j = n4 p (i + j) := by
 with_unfolding_all
 unfold n4
 rw [List.drop_drop]
theorem Qlm {p msg sig : List (BitVec 8)} (h : ¬ ((1 ≤ n4 p 0 ∧ n4 p 0 ≤ 4) ∧ (1 ≤ n4 p 4 ∧ n4 p 4 ≤ 4))) : vrf p msg sig = false := by
 unfold vrf
 rw [decide_eq_false (fun hc => h ⟨hc.2.1, hc.2.2.1⟩)]
theorem QkO (b : List (BitVec 8)) (i c : Nat) (hc : c < 4294967296) : (decide ((val ((b.drop i).take 4)).setWidth 32 = BitVec.ofNat 32 c)) = decide (n4 b i = c) := by
 have h := Qfc b i
 simp only [decide_eq_decide]
 constructor
 ·intro hh
  rw [hh, BitVec.toNat_ofNat, Nat.mod_eq_of_lt (by omega)] at h
  omega
 ·intro hh
  apply BitVec.eq_of_toNat_eq
  rw [BitVec.toNat_ofNat, Nat.mod_eq_of_lt (by omega)]
  omega
theorem QlN {p : List (BitVec 8)} (h : okP p) : tN p ≤ 200000 := by
 have hk : JU (n4 p 8) := by unfold JU; have := h.2; omega
 have := VM hk
 have := h.1
 unfold tN JN; omega
theorem Qgp (p msg sig : List (BitVec 8)) (hp : p.length ≤ 2000000000) (hm : msg.length ≤ 2000000000) (hs : sig.length ≤ 2000000000) : U9 p msg sig = some (qp p msg sig) := by
 unfold U9
 by_cases hl : p.length = 60
 ·have r1 := US p 0 (by omega)
  have r2 := US p 4 (by omega)
  have r3 := US p 8 (by omega)
  rw [QV (by simp [hl]), Qc (qh p (by omega))]
  simp only []
  rw [show Jb (p, false) = _ from r1, Option.bind_some]
  simp only []
  rw [QkO p 0 2 (by omega)]
  by_cases h2 : n4 p 0 = 2
  ·rw [QV (by rw [decide_eq_true h2]; decide), show Jb (p.drop (0 + 4), false) = _ from r2, Option.bind_some]
   simp only []
   rw [show Jb (p.drop (4 + 4), false) = _ from r3, Option.bind_some, Qc (qh sig (by omega))]
   simp only []
   have e1 : (((val (List.take 4 (List.drop 4 p))).setWidth 32).toNat : Int) = (n4 p 4 : Int) := Qfc p 4
   have e2 : (((val (List.take 4 (List.drop 8 p))).setWidth 32).toNat : Int) = (n4 p 8 : Int) := Qfc p 8
   rw [e1, e2]
   by_cases h4 : 4 ≤ sig.length
   ·have r4 := US sig 0 (by omega)
    rw [show Jb (sig, false) = _ from r4, Option.bind_some]
    simp only []
    rw [QkO sig 0 1 (by omega)]
    by_cases h5 : n4 sig 0 = 1
    ·rw [QV (by rw [decide_eq_true h5]; decide)]
     by_cases hk : okP p
     ·have hh : IsH (n4 p 4) := by have := hk.1; unfold IsH; omega
      have hkk : JU (n4 p 8) := by have := hk.2; unfold JU; omega
      have htn := QlN hk
      rw [Qc (QaQ hh hkk)]
      have ht : 8 + JN (n4 p 8) + 32 * n4 p 4 = tN p := rfl
      rw [ht]
      clear ht
      by_cases h6 : 4 + tN p ≤ sig.length
      ·have r5 := VB sig 4 (tN p) h6
       rw [show QR (sig.drop (0 + 4), false) (tN p : Int) = _ from r5, Option.bind_some]
       simp only []
       by_cases h7 : 60 + tN p ≤ sig.length
       ·have r6 : QR (sig.drop (4 + tN p), false) (56 : Int) = _ := VB sig (4 + tN p) 56 (by omega)
        rw [Qc r6]
        simp only []
        have hln : (sig.drop (4 + tN p + 56)).length = sig.length - (60 + tN p) := by rw [List.length_drop]; omega
        have r7 := VB sig (4 + tN p + 56) (sig.drop (4 + tN p + 56)).length (by omega)
        have hL : Zw (sig.drop (4 + tN p + 56), false) = some ((sig.drop (4 + tN p + 56)).length : Int) := rfl
        rw [Qc hL, Qc r7]
        simp only []
        have hF : Zm (sig.drop (4 + tN p + 56 + (sig.drop (4 + tN p + 56)).length), false) = some false := rfl
        have s1 : YJ p (4 : Int) (p.length : Int) = some (p.drop 4) := by rw [Z9 (lo := (4 : Int)) (a := 4) rfl rfl (by omega) (Nat.le_refl _), List.take_length]
        rw [Qc hF, QQ (by rfl), Qc s1, List.take_length, show 4 + tN p + 56 = 60 + tN p by omega]
        have q1 : (p.drop 4).length ≤ 4000000000 := by rw [List.length_drop]; omega
        have q2 : ((sig.drop (4 + tN p)).take 56).length ≤ 2000000000 := by rw [List.length_take]; omega
        have q3 : ((sig.drop 4).take (tN p)).length ≤ 2000000000 := by rw [List.length_take]; omega
        have q4 : (sig.drop (60 + tN p)).length ≤ 2000000000 := by rw [List.length_drop]; omega
        have q5 : ((sig.drop (4 + tN p)).take 56).length ≤ 4000000000 := by rw [List.length_take]; omega
        rw [Qc (qY _ _ _ q1 q2 q3), Option.bind_some]
        by_cases v1 : vrf (p.drop 4) ((sig.drop (4 + tN p)).take 56) ((sig.drop 4).take (tN p)) = true
        ·rw [QQ v1, Qc (qY _ _ _ q5 hm q4), Option.bind_some]
         refine congrArg some ?_
         unfold qp
         by_cases v2 : vrf ((sig.drop (4 + tN p)).take 56) msg (sig.drop (60 + tN p)) = true
         ·exact v2.trans (decide_eq_true ⟨hl, h2, h4, h5, hk, h7, v1, v2⟩).symm
         ·rw [decide_eq_false (fun hc => v2 hc.2.2.2.2.2.2.2)]
          simpa using v2
        ·rw [QV v1, Option.bind_some]
         refine congrArg some ?_
         unfold qp
         rw [decide_eq_false (fun hc => v1 hc.2.2.2.2.2.2.1)]
       ·have r6 : QR (sig.drop (4 + tN p), false) (56 : Int) = some ((sig.drop (4 + tN p), true), []) := Bm _ _ (by right; rw [List.length_drop]; omega)
        rw [Qc r6]
        simp only []
        have hL : Zw (sig.drop (4 + tN p), true) = some ((sig.drop (4 + tN p)).length : Int) := rfl
        rw [Qc hL, Qc (Uj _ _)]
        simp only []
        have hF : Zm (sig.drop (4 + tN p), true) = some true := rfl
        rw [Qc hF, QV (by decide), Option.bind_some, QV (by decide), Option.bind_some]
        refine congrArg some ?_
        unfold qp
        rw [decide_eq_false (fun hc => h7 hc.2.2.2.2.2.1)]
      ·have r5 : QR (sig.drop (0 + 4), false) (tN p : Int) = some ((sig.drop (0 + 4), true), []) := Bm _ _ (by right; rw [List.length_drop]; omega)
       rw [Qc r5]
       simp only []
       rw [Qc (Uj _ _)]
       simp only []
       have hL : Zw (sig.drop (0 + 4), true) = some ((sig.drop (0 + 4)).length : Int) := rfl
       rw [Qc hL, Qc (Uj _ _)]
       simp only []
       have hF : Zm (sig.drop (0 + 4), true) = some true := rfl
       rw [Qc hF, QV (by decide), Option.bind_some, QV (by decide), Option.bind_some]
       refine congrArg some ?_
       unfold qp
       rw [decide_eq_false (fun hc => h6 (by have := hc.2.2.2.2.2.1; omega))]
     ·have hv : qp p msg sig = false := by unfold qp; rw [decide_eq_false (fun hc => hk hc.2.2.2.2.1)]
      rw [hv, Qc (QiS (by unfold okP at hk; omega))]
      have r5 : QR (sig.drop (0 + 4), false) (0 : Int) = some ((sig.drop (4 + 0), false), (sig.drop 4).take 0) := VB sig 4 0 (by omega)
      rw [Qc r5]
      simp only []
      by_cases h7 : 60 ≤ sig.length
      ·have r6 : QR (sig.drop (4 + 0), false) (56 : Int) = _ := VB sig 4 56 (by omega)
       rw [Qc r6]
       simp only []
       have hln : (sig.drop (4 + 56)).length = sig.length - 60 := by rw [List.length_drop]
       have r7 := VB sig (4 + 56) (sig.drop (4 + 56)).length (by omega)
       have hL : Zw (sig.drop (4 + 56), false) = some ((sig.drop (4 + 56)).length : Int) := rfl
       rw [Qc hL, Qc r7]
       simp only []
       have hF : Zm (sig.drop (4 + 56 + (sig.drop (4 + 56)).length), false) = some false := rfl
       have s1 : YJ p (4 : Int) (p.length : Int) = some (p.drop 4) := by rw [Z9 (lo := (4 : Int)) (a := 4) rfl rfl (by omega) (Nat.le_refl _), List.take_length]
       have q1 : (p.drop 4).length ≤ 4000000000 := by rw [List.length_drop]; omega
       have q2 : ((sig.drop 4).take 56).length ≤ 2000000000 := by rw [List.length_take]; omega
       have q3 : ((sig.drop 4).take 0).length ≤ 2000000000 := by rw [List.length_take]; omega
       have hvn : vrf (p.drop 4) ((sig.drop 4).take 56) ((sig.drop 4).take 0) = false := Qlm (by rw [QbU, QbU]; exact hk)
       rw [Qc hF, QQ (by rfl), Qc s1, Qc (qY _ _ _ q1 q2 q3), hvn, Option.bind_some, QV (by decide), Option.bind_some]
      ·have r6 : QR (sig.drop (4 + 0), false) (56 : Int) = some ((sig.drop (4 + 0), true), []) := Bm _ _ (by right; rw [List.length_drop]; omega)
       rw [Qc r6]
       simp only []
       have hL : Zw (sig.drop (4 + 0), true) = some ((sig.drop (4 + 0)).length : Int) := rfl
       rw [Qc hL, Qc (Uj _ _)]
       simp only []
       have hF : Zm (sig.drop (4 + 0), true) = some true := rfl
       rw [Qc hF, QV (by decide), Option.bind_some, QV (by decide), Option.bind_some]
    ·rw [QQ (by rw [decide_eq_false h5]; rfl)]
     refine congrArg some ?_
     unfold qp
     rw [decide_eq_false (fun hc => h5 hc.2.2.2.1)]
   ·rw [Qc (QfJ sig (by omega)), QQ (by simp)]
    refine congrArg some ?_
    unfold qp
    rw [decide_eq_false (fun hc => h4 hc.2.2.1)]
  ·rw [QQ (by rw [decide_eq_false h2]; rfl)]
   refine congrArg some ?_
   unfold qp
   rw [decide_eq_false (fun hc => h2 hc.2.1)]
 ·rw [QQ (by simp; omega)]
  refine congrArg some ?_
  unfold qp
  rw [decide_eq_false (fun hc => hl hc.1)]
theorem Qlx : be (BitVec.ofNat 32 2) 4 = [0#8, 0#8, 0#8, 2#8] := by decide
theorem QlD : be (BitVec.ofNat 32 1) 4 = [0#8, 0#8, 0#8, 1#8] := by decide
theorem QfY {t k : Nat} (ht : IsH t) (hk : JU k) (seed : Qa) : n4 (WH t k seed) 0 = 2 ∧ n4 (WH t k seed) 4 = t ∧ n4 (WH t k seed) 8 = k ∧ (WH t k seed).drop 4 = KH t k (tID seed) (Wd seed) := by
 obtain ⟨p1, p2, p3, p4⟩ := Qc6 ht hk (tID seed) (Wd seed)
 have hd : (WH t k seed).drop 4 = KH t k (tID seed) (Wd seed) := by unfold WH; rfl
 refine ⟨?_, ?_, ?_, hd⟩
 ·have := QaS [] (KH t k (tID seed) (Wd seed)) 2 0 (by omega) rfl
  unfold WH
  rw [Qlx] at this
  exact this
 ·rw [← QbU _ 4 0, hd, p1]
 ·rw [← QbU _ 4 4, hd, p2]
theorem Qgt {t b k : Nat} (hb : IsH b) (seed : Qa) (n : Nat) (hn : n < KK t * KK b) (msg more : List (BitVec 8)) :
  n4 (qM t b k seed n msg ++ more) 0 = 1 ∧ ((qM t b k seed n msg ++ more).drop 4).take (8 + JN k + 32 * t) = Wm t k (tID seed) (Wd seed) (n / KK b) (KH b k (bID seed (n / KK b)) (VP seed (n / KK b))) ∧
  ((qM t b k seed n msg ++ more).drop (4 + (8 + JN k + 32 * t))).take 56 = KH b k (bID seed (n / KK b)) (VP seed (n / KK b)) ∧ (qM t b k seed n msg ++ more).drop (60 + (8 + JN k + 32 * t)) = Wm b k (bID seed (n / KK b)) (VP seed (n / KK b)) (n % KK b) msg ++ more := by
 obtain ⟨d1, d2⟩ := Qai hb hn
 have l1 := Wg (h := t) (k := k) (tID seed) (Wd seed) (n / KK b) d1 (KH b k (bID seed (n / KK b)) (VP seed (n / KK b)))
 have hp := WS b k (bID seed (n / KK b)) (VP seed (n / KK b))
 unfold qM
 generalize Wm t k (tID seed) (Wd seed) (n / KK b) (KH b k (bID seed (n / KK b)) (VP seed (n / KK b))) = A at l1 ⊢
 generalize Wm b k (bID seed (n / KK b)) (VP seed (n / KK b)) (n % KK b) msg = C
 generalize KH b k (bID seed (n / KK b)) (VP seed (n / KK b)) = B at hp ⊢
 generalize 8 + JN k + 32 * t = N at l1 ⊢
 rw [← QlD]
 refine ⟨?_, ?_, ?_, ?_⟩
 ·have := QaS [] (((A ++ B) ++ C) ++ more) 1 0 (by omega) rfl
  simpa [List.append_assoc] using this
 ·rw [List.append_assoc, List.append_assoc, List.append_assoc, List.drop_left' (JG _ _), List.take_left' l1]
 ·rw [List.append_assoc, List.append_assoc, List.drop_left' (by rw [List.length_append, JG, l1]), List.take_left' hp]
 ·rw [List.append_assoc, List.drop_left' (by rw [List.length_append, List.length_append, JG, l1, hp]; omega)]
theorem Qhr {t b k : Nat} (ht : IsH t) (hb : IsH b) (hk : JU k) (seed : Qa) (n : Nat) (hn : n < KK t * KK b) (msg more : List (BitVec 8)) :
  qp (WH t k seed) msg (qM t b k seed n msg ++ more) = vrf (KH b k (bID seed (n / KK b)) (VP seed (n / KK b))) msg (Wm b k (bID seed (n / KK b)) (VP seed (n / KK b)) (n % KK b) msg ++ more) := by
 obtain ⟨d1, d2⟩ := Qai hb hn
 obtain ⟨p1, p2, p3, p4⟩ := QfY ht hk seed
 obtain ⟨s1, s2, s3, s4⟩ := Qgt (t := t) (k := k) hb seed n hn msg more
 have hl := Qe1 (t := t) (k := k) hb seed n hn msg
 have ht1 := Wf ht
 have hk1 := Qgy hk
 have htn : tN (WH t k seed) = 8 + JN k + 32 * t := by unfold tN; rw [p2, p3]
 unfold qp
 rw [htn, s1, s2, s3, s4, p4, p1, QcK]
 have hok : okP (WH t k seed) := by unfold okP; rw [p2, p3]; omega
 have hr := Qdy ht hk (tID seed) (Wd seed) (n / KK b) d1 (KH b k (bID seed (n / KK b)) (VP seed (n / KK b)))
 by_cases v : vrf (KH b k (bID seed (n / KK b)) (VP seed (n / KK b))) msg (Wm b k (bID seed (n / KK b)) (VP seed (n / KK b)) (n % KK b) msg ++ more) = true
 ·rw [v, decide_eq_true ⟨rfl, rfl, by rw [List.length_append]; omega, rfl, hok, by rw [List.length_append]; omega, hr, rfl⟩]
 ·rw [decide_eq_false (fun hc => v hc.2.2.2.2.2.2.2)]
  simpa using v
theorem Qf3 {t b k : Nat} (ht : IsH t) (hb : IsH b) (hk : JU k) (seed : Qa) (n : Nat) (hn : n < KK t * KK b) (msg : List (BitVec 8)) : qp (WH t k seed) msg (qM t b k seed n msg) = true := by
 obtain ⟨d1, d2⟩ := Qai hb hn
 have := Qhr ht hb hk seed n hn msg []
 rw [List.append_nil, List.append_nil] at this
 rw [this]
 exact Qdy hb hk _ _ _ d2 msg
end Go.Sl.Pu
set_option maxRecDepth 20000
namespace Go.Sl.Pu
open Go.Sl Go.Sl.M
attribute [local irreducible] w64 val hat n4 be
def qs (h : JO) : Prop := (1 ≤ h.1 ∧ h.1 ≤ 2147483647) ∧ (1 ≤ h.2.1 ∧ h.2.1 ≤ 2147483647)
instance (h : JO) : Decidable (qs h) := by unfold qs; infer_instance
theorem Qlt (h : JO) : KM h = some (decide (qs h)) := by
 unfold KM
 by_cases h1 : 1 ≤ h.1
 ·rw [QQ (decide_eq_true h1), Option.bind_some]
  by_cases h2 : h.1 < 2147483648
  ·rw [QQ (decide_eq_true h2), Option.bind_some]
   by_cases h3 : 1 ≤ h.2.1
   ·rw [QQ (decide_eq_true h3), Option.bind_some]
    refine congrArg some (decide_eq_decide.2 ?_)
    unfold qs
    omega
   ·rw [QV (by simpa using h3), Option.bind_some, decide_eq_false (fun hc => by unfold qs at hc; omega)]
  ·rw [QV (by simpa using h2), Option.bind_some, QV (by decide), Option.bind_some, decide_eq_false (fun hc => by unfold qs at hc; omega)]
 ·rw [QV (by simpa using h1), Option.bind_some, QV (by decide), Option.bind_some, QV (by decide), Option.bind_some, decide_eq_false (fun hc => by unfold qs at hc; omega)]
def Qee (h : JO) : List (BitVec 8) := ((be (BitVec.ofNat 32 h.1.toNat) 4 ++ be (BitVec.ofNat 32 h.2.1.toNat) 4) ++ h.2.2.1.toList) ++ h.2.2.2.toList
theorem Qfm (h : JO) : (Qee h).length = 72 := by simp [Qee, JG]
theorem Qdm (h : JO) : Kx h = some (if qs h then (Qee h, 0) else ([], 1)) := by
 unfold Kx
 rw [Qc (Qlt h)]
 by_cases hh : qs h
 ·rw [if_pos hh, QV (by rw [decide_eq_true hh]; decide)]
  unfold qs at hh
  rw [show h.1 = ((h.1.toNat : Nat) : Int) by omega, show h.2.1 = ((h.2.1.toNat : Nat) : Int) by omega, Up, Up, Qc (Ws [] (by simp) _), Qc (Ws _ (by simp [JG]) _), Qc (Vy _ _ (by simp [JG])), Qc (Vy _ _ (by simp [JG])), Qc (QaN _ (by simp [JG]))]
  rfl
 ·rw [if_neg hh, QQ (by rw [decide_eq_false hh]; rfl)]
end Go.Sl.Pu
set_option maxRecDepth 20000
namespace Go.Sl.Pu
open Go.Sl Go.Sl.M
attribute [local irreducible] w64 val hat n4 be sha qp
theorem Qhm (b : List (BitVec 8)) (hb : b.length ≤ 3999999999) : XN b = some (sha (0#8 :: b)) := by
 unfold XN
 rw [QQ (Qer (by simp; omega)), Qc (Qd5 _ (by simp; omega))]; rfl
theorem QhQ (x : Int) : (BitVec.ofInt 64 x) % (4294967296#64) = (BitVec.ofInt 32 x).setWidth 64 := by
 apply BitVec.eq_of_toNat_eq
 rw [BitVec.toNat_umod, BitVec.toNat_setWidth, BitVec.toNat_ofInt, BitVec.toNat_ofInt]
 simp only [BitVec.toNat_ofNat, Nat.reducePow, Nat.reduceMod]
 omega
theorem QfV (e : Int) (t : Qa) : Xl e t = some (sha (0#8 :: (be (BitVec.ofInt 32 e) 4 ++ t.toList))) := by
 unfold Xl
 have hn : Zz ((BitVec.ofInt 64 e) % (4294967296#64)) (4 : Int) = some (be (BitVec.ofInt 32 e) 4) := by
  rw [QhQ, ← Qbx (BitVec.ofInt 32 e) 4 (by omega) (by omega)]
  exact QdC _ 4 (by omega)
 rw [Qc hn, QQ (Qer (by simp [JG])), Qc (Qhm _ (by simp [JG]))]
noncomputable def Qgc (s : Qr) (p : List (BitVec 8)) : Bool := if qs s.1 then qp p (Qee s.1) s.2 else false
theorem Qir (s : Qr) (p : List (BitVec 8)) (hs : s.2.length ≤ 2000000000) (hp : p.length ≤ 2000000000) : Kt s p = some (Qgc s p) := by
 unfold Kt Qgc
 rw [Qc (Qdm _)]
 by_cases hh : qs s.1
 ·rw [if_pos hh, QQ (by simp), Qc (Qgp _ _ _ hp (by show (Qee s.1).length ≤ _; rw [Qfm]; omega) hs), Option.bind_some, if_pos hh]
 ·rw [if_neg hh, QV (by simp), Option.bind_some, if_neg hh]
end Go.Sl.Pu
set_option linter.unusedSectionVars false
namespace Go.Sl
namespace Pu
open Go.Sl Go.Sl.M
abbrev KP : Qa := #v[27#8, 0#8, 0#8, 0#8, 0#8, 0#8, 0#8, 0#8, 0#8, 0#8, 0#8, 0#8, 0#8, 0#8, 0#8, 0#8, 0#8, 0#8, 0#8, 0#8, 0#8, 0#8, 0#8, 0#8, 0#8, 0#8, 0#8, 0#8, 0#8, 0#8, 0#8, 0#8]
theorem ih1 : IsH 1 := Or.inl rfl
theorem ih2 : IsH 2 := Or.inr (Or.inl rfl)
theorem ik3 : JU 3 := Or.inr (Or.inr (Or.inl rfl))
theorem Qll : KK 1 * KK 2 = 8 := rfl
theorem QfA : ∃ s : Sg, YB = some s ∧ IsS 1 2 3 KP s := by
 obtain ⟨s, hs, hI⟩ := QkG ih1 ih2 ik3 KP
 have hs' : B9 (1 : Int) (2 : Int) (3 : Int) KP = _ := hs
 refine ⟨s, ?_, hI⟩
 unfold YB
 rw [Option.bind_some, Qc hs', Option.bind_some]
def Qaw (h : JO) : Nat := ((BitVec.ofInt 64 h.1) % (8#64)).toNat
theorem Qcr (h : JO) : Qaw h < 8 := by
 unfold Qaw
 rw [BitVec.toNat_umod]
 exact Nat.mod_lt _ (by decide)
def qJ (h : JO) : List (BitVec 8) := qM 1 2 3 KP (Qaw h) (Qee h)
def Yb : List (BitVec 8) := WH 1 3 KP
theorem Qfd {s : Sg} (hI : IsS 1 2 3 KP s) (h : JO) (hh : qs h) : ∃ s' : Sg, Zy s h = some (s', (h, qJ h)) ∧ IsS 1 2 3 KP s' := by
 have he := Qdm h
 rw [if_pos hh] at he
 have hl := Qfm h
 have hn := Qcr h
 obtain ⟨s', hs2, hI2⟩ := QiP ih1 ih2 ik3 hI (Qaw h) (by rw [Qll]; exact hn) (Qee h) (by omega)
 refine ⟨s', ?_, hI2⟩
 have hw : w64 (((BitVec.ofInt 64 h.1) % (8#64)).toNat : Int) = ((Qaw h : Nat) : Int) := Jk (by have : ((BitVec.ofInt 64 h.1) % (8#64)).toNat = Qaw h := rfl; omega)
 have hd : WL s ((Qaw h : Nat) : Int) h = some (s', (h, qJ h), 0) := by
  unfold WL
  rw [Qc he, QV (by simp), show ((s.1, s.2.1, s.2.2.1, s.2.2.2.1, s.2.2.2.2.1, s.2.2.2.2.2) : Sg) = s from rfl, Qc hs2, QV (by simp), Option.bind_some]
  rfl
 unfold Zy
 rw [hw, show ((s.1, s.2.1, s.2.2.1, s.2.2.2.1, s.2.2.2.2.1, s.2.2.2.2.2) : Sg) = s from rfl, Qc hd]
theorem Qbh (h : JO) : (qJ h).length ≤ 2000000 := by
 have := Qe1 (t := 1) (k := 3) ih2 KP (Qaw h) (by rw [Qll]; exact Qcr h) (Qee h)
 have hsz : JN 3 = 2180 := rfl
 unfold qJ
 omega
theorem QgO (h : JO) (hh : qs h) : Kt (h, qJ h) Yb = some true := by
 have hr := Qf3 ih1 ih2 ik3 KP (Qaw h) (by rw [Qll]; exact Qcr h) (Qee h)
 have hp : Yb.length = 60 := QcK 1 3 KP
 have hsl := Qbh h
 rw [Qir (h, qJ h) Yb (by show (qJ h).length ≤ _; omega) (by omega)]
 unfold Qgc
 rw [if_pos hh]
 exact congrArg some hr
end Pu
end Go.Sl
namespace Go.Sl
namespace Pu
open Go.Sl Go.Sl.M
abbrev Sgd := Qr
theorem Bb (s : Sgd) (h : s.2.length ≤ 2000000) : Yt s = some s := by
 unfold Yt
 have hcl : Jq s.2 = some s.2 := by unfold Jq; rw [QQ (by simp [AP]; omega)]; simp
 rw [Qc hcl]
def Be (l : List Sgd) (e : Int) (k : Nat) : Prop := k ≤ l.length ∧ (∀ i (h : i < l.length), i < k → l[i].1.1 < e) ∧ (∀ i (h : i < l.length), k ≤ i → e ≤ l[i].1.1)
def qg (l : List Sgd) : Prop := l.length ≤ 1000 ∧ ∀ s ∈ l, 0 ≤ s.1.1 ∧ s.1.1 ≤ 2147483647
theorem Qlh {i j : Nat} (hj : j ≤ 1000) (hi : i < j) : w64 (((BitVec.ofInt 64 (w64 ((i : Int) + (j : Int)))) >>> 1).toNat : Int) = (((i + j) / 2 : Nat) : Int) := by
 rw [Jk (n := (i : Int) + (j : Int)) (by omega)]
 have e1 : (BitVec.ofInt 64 ((i : Int) + (j : Int))).toNat = i + j := by
  rw [BitVec.toNat_ofInt]; omega
 have e2 : ((BitVec.ofInt 64 ((i : Int) + (j : Int))) >>> 1).toNat = (i + j) / 2 := by
  rw [BitVec.toNat_ushiftRight, e1, Nat.shiftRight_eq_div_pow]
 rw [e2, Jk (by omega)]
theorem Qgo (l : List Sgd) (e : Int) (k : Nat) (hs : qg l) (he : 0 ≤ e ∧ e ≤ 2147483647) (hk : Be l e k) :
  Q5 (fun (s : Int × Int) => QP l e s.1 s.2) FU ((0 : Int), (l.length : Int)) = some ((k : Int), (k : Int)) := by
 obtain ⟨hk0, hk1, hk2⟩ := hk
 have hlen := hs.1
 obtain ⟨s, h1, h2⟩ := WP (f := fun (s : Int × Int) => QP l e s.1 s.2) (fun (s : Int × Int) => ∃ i j : Nat, s = ((i : Int), (j : Int)) ∧ i ≤ k ∧ k ≤ j ∧ j ≤ l.length) (fun (s : Int × Int) => (s.2 - s.1).toNat) (fun s => s = ((k : Int), (k : Int))) (by
  rintro s ⟨i, j, rfl, h1, h2, h3⟩
  simp only [QP]
  by_cases hij : i < j
  ·left
   have hm : (i + j) / 2 < l.length := by omega
   have hsm := hs.2 _ (List.getElem_mem hm)
   rw [QQ (by simp; omega), Qlh (by omega) hij, Option.bind_some, Qc (Ju rfl hm)]
   unfold YC
   rw [Option.bind_some, Jk (n := l[(i + j) / 2].1.1 - e) (by omega)]
   by_cases hlt : l[(i + j) / 2].1.1 < e
   ·rw [QQ (by simp; omega), Jk (by omega)]
    refine ⟨_, rfl, ⟨(i + j) / 2 + 1, j, by simp, ?_, h2, h3⟩, by dsimp only; omega⟩
    rcases Nat.lt_or_ge ((i + j) / 2) k with h | h
    ·exact h
    ·have := hk2 _ hm h; omega
   ·rw [QV (by simp; omega)]
    refine ⟨_, rfl, ⟨i, (i + j) / 2, rfl, h1, ?_, by omega⟩, by dsimp only; omega⟩
    rcases Nat.lt_or_ge ((i + j) / 2) k with h | h
    ·exact absurd (hk1 _ hm h) hlt
    ·exact h
  ·right
   rw [QV (by simp; omega)]
   have : i = k := by omega
   have : j = k := by omega
   subst_vars
   exact ⟨_, rfl, rfl⟩) FU _ ⟨0, l.length, rfl, by omega, hk0, Nat.le_refl _⟩ (Nat.lt_of_le_of_lt (show _ ≤ l.length by dsimp only; omega) (J7 (by omega)))
 rw [h2] at h1
 exact h1
theorem B8 (pu : List (BitVec 8)) (l : List Sgd) (fo : List Qw) (li : List QB) (e : Int) (k : Nat) (hs : qg l) (he : 0 ≤ e ∧ e ≤ 2147483647) (hk : Be l e k) :
  JH (some (pu, l, fo, li)) e = some ((k : Int), decide (∃ s ∈ l[k]?, s.1.1 = e)) := by
 have hlen := hs.1
 unfold JH Q8
 rw [Option.bind_some]
 rw [Qc (Qgo l e k hs he hk)]
 dsimp only
 by_cases h : k < l.length
 ·have hsm := hs.2 _ (List.getElem_mem h)
  rw [QQ (by simp; omega), Qc (Ju rfl h)]
  unfold YC
  rw [Option.bind_some, Option.bind_some, Jk (n := l[k].1.1 - e) (by omega), Option.bind_some]
  have : (∃ s ∈ l[k]?, s.1.1 = e) ↔ l[k].1.1 - e = 0 := by
   rw [List.getElem?_eq_getElem h]; simp; omega
  simp only [this, Option.bind_some]
 ·rw [QV (by simp; omega), Option.bind_some, Option.bind_some]
  have : ¬ (∃ s ∈ l[k]?, s.1.1 = e) := by
   rw [List.getElem?_eq_none (by omega)]; simp
  exact congrArg (fun b => some ((k : Int), b)) (decide_eq_false this).symm
end Pu
end Go.Sl
namespace Go.Sl
namespace Pu
open Go.Sl Go.Sl.M
end Pu
end Go.Sl
namespace Go.Sl
namespace Pu
open Go.Sl Go.Sl.M
section
variable (pu : List (BitVec 8)) (l : List Sgd) (fo : List Qw) (li : List QB) (s : Sgd) (k : Nat) (hr : Kt s pu = some true) (hs : qg l) (he : 0 ≤ s.1.1 ∧ s.1.1 ≤ 2147483647) (hk : Be l s.1.1 k)
include hr hs he hk
theorem Qfs (hn : ¬ ∃ x ∈ l[k]?, x.1.1 = s.1.1) (hl : l.length < 64) (hS : s.2.length ≤ 2000000) : Zt (pu, l, fo, li) s = some ((pu, l.take k ++ [s] ++ l.drop k, fo, li), 0) := by
 have hk0 := hk.1
 unfold Zt
 rw [Qc hr, QV (by simp)]
 dsimp only
 rw [Qc (B8 pu l fo li s.1.1 k hs he hk)]
 dsimp only
 rw [decide_eq_false hn, QV (by simp), Option.bind_some, QV (by simp), QV (by simp), Option.bind_some, QV (by simp; omega), Qc (Bb s hS)]
 unfold ZR
 rw [if_pos ⟨by omega, by omega, rfl, by omega⟩, Option.bind_some, Int.toNat_natCast]
theorem Qjl (hl : k < l.length) (hx : l[k].1 = s.1) : Zt (pu, l, fo, li) s = some ((pu, l, fo, li), 11) := by
 unfold Zt
 rw [Qc hr, QV (by simp)]
 dsimp only
 have hy : ∃ x ∈ l[k]?, x.1.1 = s.1.1 := ⟨l[k], by rw [List.getElem?_eq_getElem hl]; rfl, by rw [hx]⟩
 rw [Qc (B8 pu l fo li s.1.1 k hs he hk)]
 dsimp only
 rw [decide_eq_true hy, QQ (c := true = true) rfl, Qc (Ju rfl hl), Option.bind_some, QQ (by simpa using hx)]
end
end Pu
end Go.Sl
namespace Go.Sl
namespace Pu
open Go.Sl Go.Sl.M
theorem Qhu (pu : List (BitVec 8)) (l : List Sgd) (fo : List Qw) (li : List QB) (hn : l.length ≤ 1000) (hS : ∀ s ∈ l, s.2.length ≤ 2000000) : XP (pu, l, fo, li) = some l := by
 unfold XP
 have h1 := QeA (f := fun (s : Int × List Sgd) => Yk (pu, l, fo, li) s.1 s.2) l id (by omega) (fun i hi acc ha => by
  simp only [Yk]
  have hv := hS _ (List.getElem_mem hi)
  rw [QQ (by simp; omega), Qc (Ju rfl hi), Qc (Bb _ hv), QQ (by simp [AP]; omega), Jk (by omega)]; rfl) (fun acc => by
  simp only [Yk]
  rw [QV (by simp)])
 rw [Qc h1]; simp
theorem Qid (pu : List (BitVec 8)) (l : List Sgd) (fo : List Qw) (li : List QB) (hn : fo.length ≤ 1000) (hS : ∀ f ∈ fo, f.1.2.length ≤ 2000000 ∧ f.2.2.length ≤ 2000000) : XD (pu, l, fo, li) = some fo := by
 unfold XD
 have h1 := QeA (f := fun (s : Int × List Qw) => Yn (pu, l, fo, li) s.1 s.2) fo id (by omega) (fun i hi acc ha => by
  simp only [Yn]
  have hv := hS _ (List.getElem_mem hi)
  rw [QQ (by simp; omega), Qc (Ju rfl hi), Qc (Bb _ hv.1), Qc (Bb _ hv.2), Option.bind_some, QQ (by simp [AP]; omega), Jk (by omega)]; rfl) (fun acc => by
  simp only [Yn]
  rw [QV (by simp)])
 rw [Qc h1]; simp
theorem Qhg (pu : List (BitVec 8)) (h : pu.length ≤ 2000000) : Ua pu = some (pu, [], [], []) := by
 unfold Ua
 have hcl : Jq pu = some pu := by unfold Jq; rw [QQ (by simp [AP]; omega)]; simp
 rw [Qc hcl]
 try rfl
end Pu
end Go.Sl
namespace Go.Sl
namespace Pu
open Go.Sl Go.Sl.M
theorem Qdq : Yb.length ≤ 2000000 := by
 have : Yb.length = 60 := QcK 1 3 KP
 omega
def Qgx (h : JO) : Sgd := (h, qJ h)
theorem Qh5 (e : Int) : Be [] e 0 := ⟨Nat.le_refl _, fun i h => by simp at h, fun i h => by simp at h⟩
theorem QhL (s : Sgd) : Be [s] s.1.1 0 := ⟨by simp, fun i h hi => by omega, fun i h _ => by
 have : i = 0 := by simp at h; omega
 subst this; exact Int.le_refl _⟩
theorem Qhn : qg [] := ⟨by simp, fun s h => by cases h⟩
theorem Qhy (s : Sgd) (h : 0 ≤ s.1.1 ∧ s.1.1 ≤ 2147483647) : qg [s] := ⟨by simp, fun x hx => by rw [List.mem_singleton.1 hx]; exact h⟩
def QbL : JO := (3, 1, Vector.replicate 32 0#8, Vector.replicate 32 0#8)
theorem QeB (pu : List (BitVec 8)) (s : Sgd) (h : 0 ≤ s.1.1 ∧ s.1.1 ≤ 2147483647) : JW (some (pu, [s], [], [])) s.1.1 s.1.1 = some true := by
 unfold JW
 have hp := B8 pu [s] [] [] s.1.1 0 (Qhy s h) h (QhL s)
 have hy : ∃ x ∈ [s][0]?, x.1.1 = s.1.1 := ⟨s, rfl, rfl⟩
 rw [decide_eq_true hy] at hp
 rw [QV (by simp), Qc hp, Qc hp]
 dsimp only
 rw [QV (by simp), Option.bind_some, QV (by simp)]
 have h1 : J0 s.1.1 (some (pu, [s], [], [])) 0 [s.1.1] = some (.ret true) := by
  unfold J0
  rw [QQ (by simp), Qc (show ZC [s.1.1] 0 = some s.1.1 from rfl), QQ (by simp)]
 have h2 := B6 (f := fun (s1 : Int × List Int) => J0 s.1.1 (some (pu, [s], [], [])) s1.1 s1.2) (n := FU - 1) (s := ((0 : Int), [s.1.1])) h1
 rw [show FU - 1 + 1 = FU from rfl] at h2
 rw [Qc h2]
theorem QgT : YL = some true := by
 unfold YL
 obtain ⟨s, hs, hI⟩ := QfA
 have hh : qs QbL := by decide
 obtain ⟨s', hs2, hI2⟩ := Qfd hI QbL hh
 have WH : Z1 s = some Yb := QcW ih1 hI
 have hsl := Qbh QbL
 have QiT := Qfs Yb [] [] [] (Qgx QbL) 0 (QgO QbL hh) Qhn (show 0 ≤ (3 : Int) ∧ (3 : Int) ≤ 2147483647 by omega) (Qh5 _) (by simp) (by simp) hsl
 rw [Qc hs, show ((s.1, s.2.1, s.2.2.1, s.2.2.2.1, s.2.2.2.2.1, s.2.2.2.2.2) : Sg) = s from rfl, Qc WH, Qc (Qhg Yb Qdq), Option.bind_some, Qc (show Zy s ((3 : Int), (1 : Int), Vector.replicate 32 0#8, Vector.replicate 32 0#8) = _ from hs2)]
 dsimp only
 rw [Qc (show Zt (Yb, [], [], []) (QbL, qJ QbL) = _ from QiT)]
 dsimp only
 rw [QQ (by simp)]
 have hhd := Qhu Yb [Qgx QbL] [] [] (by simp) (fun x hx => by rw [List.mem_singleton.1 hx]; exact hsl)
 have hlk : JW (some (Yb, [Qgx QbL], [], [])) (3 : Int) (3 : Int) = some true := QeB Yb (Qgx QbL) (show 0 ≤ (3 : Int) ∧ (3 : Int) ≤ 2147483647 by omega)
 have e1 : ([] : List Sgd).take 0 ++ [Qgx QbL] ++ ([] : List Sgd).drop 0 = [Qgx QbL] := rfl
 rw [e1, Qc hhd, Option.bind_some, QQ (by simp), Qc hlk, Option.bind_some]
end Pu
end Go.Sl
namespace Go.Sl
namespace Pu
open Go.Sl Go.Sl.M
abbrev Lk := QB
inductive Rch (L : List (Int × Int)) (m : Int) : Int → Prop
 | refl : Rch L m m
 | step {a b : Int} : Rch L m a → (a, b) ∈ L → Rch L m b
def nxt (b : List Int) (d : Int) : List Int := if d ∈ b then b else b ++ [d]
theorem Qih (b : List Int) (d : Int) (hb : b.length ≤ 100000) : Zc b d = some (nxt b d) := by
 unfold Zc
 obtain ⟨o, h1, h2⟩ := Vx (f := fun (s : Int) => YH b d s) (fun (s : Int) => ∃ i : Nat, s = (i : Int) ∧ i ≤ b.length ∧ ∀ j (h : j < b.length), j < i → b[j] ≠ d) (fun s => b.length - s.toNat) (fun (o : Int ⊕ Int) => match o with | .inl _ => d ∉ b | .inr _ => d ∈ b) (by
  rintro s ⟨i, rfl, h1, h2⟩
  simp only [YH]
  by_cases hi : i < b.length
  ·rw [QQ (by simp; omega), Qc (Ju rfl hi)]
   by_cases he : b[i] = d
   ·right; right
    rw [QQ (by simpa using he)]
    exact ⟨_, rfl, he ▸ List.getElem_mem hi⟩
   ·left
    rw [QV (by simpa using he), Jk (by omega)]
    refine ⟨_, rfl, ⟨i + 1, by simp, by omega, fun j hj hji => ?_⟩, by omega⟩
    rcases Nat.lt_or_ge j i with h | h
    ·exact h2 j hj h
    ·have : j = i := by omega
     subst this; exact he
  ·right; left
   rw [QV (by simp; omega)]
   refine ⟨_, rfl, fun hm => ?_⟩
   obtain ⟨j, hj, hjd⟩ := List.mem_iff_getElem.1 hm
   exact h2 j hj (by omega) hjd) FU (0 : Int) ⟨0, rfl, by omega, fun j _ h => by omega⟩ (Nat.lt_of_le_of_lt (Nat.sub_le _ _) (J7 (by omega)))
 rw [Qc h1]
 unfold nxt
 cases o with
 | inl s => rw [if_neg (show d ∉ b from h2)]; dsimp only; rw [QQ (by simp [AP]; omega)]
 | inr r => rw [if_pos (show d ∈ b from h2)]
def K9 (L : List Lk) (e : Int) (b : List Int) : List Int := L.foldl (fun b l => if l.1 = e then nxt b l.2 else b) b
theorem Qkd (b : List Int) (d : Int) : (nxt b d).length ≤ b.length + 1 := by
 unfold nxt; split
 ·omega
 ·simp
theorem Qcl (L : List Lk) (x : Lk) (e : Int) (b : List Int) : K9 (L ++ [x]) e b = if x.1 = e then nxt (K9 L e b) x.2 else K9 L e b := by simp [K9, List.foldl_append]
theorem Qjf (pu : List (BitVec 8)) (l : List Sgd) (fo : List Qw) (li : List QB) (e : Int) (b : List Int) (hl : li.length ≤ 1000) (hb : b.length ≤ 5000) : Xa (fun (s : List Int) (d : Int) => Zc s d) (some (pu, l, fo, li)) e b = some (K9 li e b) := by
 unfold Xa
 rw [Option.bind_some]
 obtain ⟨s, h1, h2⟩ := WP (f := fun (s : Int × List Int) => Yv (pu, l, fo, li) e (fun (s : List Int) (d : Int) => Zc s d) s.1 s.2) (fun (s : Int × List Int) => ∃ i : Nat, i ≤ li.length ∧ s = ((i : Int), K9 (li.take i) e b) ∧ (K9 (li.take i) e b).length ≤ b.length + i) (fun (s : Int × List Int) => li.length - s.1.toNat) (fun (s : Int × List Int) => s.2 = K9 li e b) (by
  rintro s ⟨i, hi, rfl, hlen⟩
  simp only [Yv]
  by_cases h : i < li.length
  ·left
   rw [QQ (by simp; omega), Qc (Ju rfl h)]
   have ht : li.take (i + 1) = li.take i ++ [li[i]] := by simp
   by_cases he : li[i].1 = e
   ·rw [QQ (by simpa using he), Qc (Qih _ _ (by omega)), Jk (by omega)]
    have := Qkd (K9 (li.take i) e b) li[i].2
    have hg : K9 (li.take (i + 1)) e b = nxt (K9 (li.take i) e b) li[i].2 := by rw [ht, Qcl, if_pos he]
    refine ⟨_, rfl, ⟨i + 1, by omega, by rw [hg]; rfl, by rw [hg]; omega⟩, by dsimp only; omega⟩
   ·rw [QV (by simpa using he), Jk (by omega)]
    have hg : K9 (li.take (i + 1)) e b = K9 (li.take i) e b := by rw [ht, Qcl, if_neg he]
    refine ⟨_, rfl, ⟨i + 1, by omega, by rw [hg]; rfl, by rw [hg]; omega⟩, by dsimp only; omega⟩
  ·right
   rw [QV (by simp; omega)]
   have : i = li.length := by omega
   subst this
   exact ⟨_, rfl, by rw [List.take_length]⟩) FU ((0 : Int), b) ⟨0, by omega, rfl, Nat.le_refl _⟩ (Nat.lt_of_le_of_lt (Nat.sub_le _ _) (J7 (by omega)))
 rw [Qc h1, h2]
theorem Wv (e : Int) : ∀ (L : List Lk) (b : List Int), b.Nodup → ∃ x, K9 L e b = b ++ x ∧ (b ++ x).Nodup ∧ (∀ d ∈ x, (e, d) ∈ L) ∧ ∀ d, (e, d) ∈ L → d ∈ b ++ x
 | [], b, hb => ⟨[], by simp [K9], by simpa using hb, fun d h => (by cases h), fun d h => (by cases h)⟩
 | y :: L, b, hb => by
  by_cases he : y.1 = e
  ·by_cases hm : y.2 ∈ b
   ·obtain ⟨x, h1, h2, h3, h4⟩ := Wv e L b hb
    refine ⟨x, ?_, h2, fun d hd => List.mem_cons_of_mem _ (h3 d hd), fun d hd => ?_⟩
    ·rw [← h1]
     show K9 L e (if y.1 = e then nxt b y.2 else b) = _
     rw [if_pos he, nxt, if_pos hm]
    ·rcases List.mem_cons.1 hd with h | h
     ·rw [show d = y.2 from congrArg Prod.snd h]; exact List.mem_append_left _ hm
     ·exact h4 d h
   ·obtain ⟨x, h1, h2, h3, h4⟩ := Wv e L (b ++ [y.2]) (List.nodup_append.2 ⟨hb, by simp, fun a ha c hc => by rw [List.mem_singleton.1 hc]; rintro rfl; exact hm ha⟩)
    refine ⟨y.2 :: x, ?_, by simpa using h2, fun d hd => ?_, fun d hd => ?_⟩
    ·rw [show b ++ y.2 :: x = b ++ [y.2] ++ x by simp, ← h1]
     show K9 L e (if y.1 = e then nxt b y.2 else b) = _
     rw [if_pos he, nxt, if_neg hm]
    ·rcases List.mem_cons.1 hd with h | h
     ·rw [h, ← he]; exact List.mem_cons_self
     ·exact List.mem_cons_of_mem _ (h3 d h)
    ·rcases List.mem_cons.1 hd with h | h
     ·rw [show d = y.2 from congrArg Prod.snd h]; simp
     ·have := h4 d h; simpa using this
  ·obtain ⟨x, h1, h2, h3, h4⟩ := Wv e L b hb
   refine ⟨x, ?_, h2, fun d hd => List.mem_cons_of_mem _ (h3 d hd), fun d hd => ?_⟩
   ·rw [← h1]
    show K9 L e (if y.1 = e then nxt b y.2 else b) = _
    rw [if_neg he]
   ·rcases List.mem_cons.1 hd with h | h
    ·exact absurd (congrArg Prod.fst h).symm he
    ·exact h4 d h
theorem Qdv : ∀ (a b : List Int), a.Nodup → (∀ x ∈ a, x ∈ b) → a.length ≤ b.length
 | [], b, _, _ => by simp
 | x :: a, b, hn, hs => by
  have hx : x ∈ b := hs x List.mem_cons_self
  have hn' := List.nodup_cons.1 hn
  have := Qdv a (b.erase x) hn'.2 (fun y hy => (List.mem_erase_of_ne (fun h : y = x => hn'.1 (by rw [← h]; exact hy))).2 (hs y (List.mem_cons_of_mem _ hy)))
  rw [List.length_erase_of_mem hx] at this
  have := List.length_pos_of_mem hx
  simp only [List.length_cons]
  omega
theorem QiM {L : List Lk} {m : Int} {b : List Int} (hm : m ∈ b) (h : ∀ x ∈ b, ∀ d, (x, d) ∈ L → d ∈ b) : ∀ {n : Int}, Rch L m n → n ∈ b
 | _, .refl => hm
 | _, .step hr hl => h _ (QiM hm h hr) _ hl
theorem QjQ {L : List Lk} {m x : Int} (h : Rch L m x) : x ∈ m :: L.map Prod.snd := by
 cases h with
 | refl => exact List.mem_cons_self
 | step _ hl => exact List.mem_cons_of_mem _ (List.mem_map.2 ⟨_, hl, rfl⟩)
theorem Qfx (pu : List (BitVec 8)) (l : List Sgd) (fo : List Qw) (li : List QB) (m n : Int) (hl : li.length ≤ 1000) :
  ∃ o, Z2 (fun (s : Int × (List Int)) => J0 n (some (pu, l, fo, li)) s.1 s.2) FU ((0 : Int), [m]) = some o ∧ (match o with | .inl _ => ¬ Rch li m n | .inr x => x = true ∧ Rch li m n) := by
 refine Vx (f := fun (s : Int × (List Int)) => J0 n (some (pu, l, fo, li)) s.1 s.2) (fun (s : Int × (List Int)) => ∃ k : Nat, s.1 = (k : Int) ∧ k ≤ s.2.length ∧ s.2.Nodup ∧ (∀ x ∈ s.2, Rch li m x) ∧ m ∈ s.2 ∧ ∀ j (h : j < s.2.length), j < k → s.2[j] ≠ n ∧ ∀ d, (s.2[j], d) ∈ li → d ∈ s.2) (fun (s : Int × (List Int)) => 2000 - s.1.toNat) (fun (o : (Int × List Int) ⊕ Bool) => match o with | .inl _ => ¬ Rch li m n | .inr x => x = true ∧ Rch li m n) ?_ FU _ ⟨0, rfl, by simp, by simp, fun x hx => (by rw [List.mem_singleton.1 hx]; exact .refl), by simp, fun j _ h => by omega⟩ (Nat.lt_of_le_of_lt (Nat.sub_le _ _) (J7 (by omega)))
 rintro ⟨i, b⟩ ⟨k, h1, h2, h3, h4, h5, h6⟩
 dsimp only at h1 h2 h3 h4 h5 h6 ⊢
 subst h1
 have hlen : b.length ≤ li.length + 1 := by
  have := Qdv b (m :: li.map Prod.snd) h3 (fun x hx => QjQ (h4 x hx))
  simpa using this
 simp only [J0]
 by_cases hk : k < b.length
 ·rw [QQ (by simp; omega), Qc (Ju rfl hk)]
  by_cases he : b[k] = n
  ·right; right
   rw [QQ (by simpa using he)]
   exact ⟨_, rfl, rfl, he ▸ h4 _ (List.getElem_mem hk)⟩
  ·left
   obtain ⟨x, g1, g2, g3, g4⟩ := Wv b[k] li b h3
   rw [QV (by simpa using he), Qc (Ju rfl hk), Qc (Qjf pu l fo li _ b hl (by omega)), Jk (by omega), g1]
   refine ⟨_, rfl, ⟨k + 1, rfl, by simp; omega, g2, fun y hy => ?_, List.mem_append_left _ h5, fun j hj hjk => ?_⟩, by dsimp only; omega⟩
   ·rcases List.mem_append.1 hy with hy | hy
    ·exact h4 y hy
    ·exact .step (h4 _ (List.getElem_mem hk)) (g3 y hy)
   ·have hjb : j < b.length := by omega
    have hg : (b ++ x)[j] = b[j] := List.getElem_append_left hjb
    dsimp only
    rw [hg]
    rcases Nat.lt_or_ge j k with h | h
    ·obtain ⟨p, q⟩ := h6 j hjb h
     exact ⟨p, fun d hd => List.mem_append_left _ (q d hd)⟩
    ·have : j = k := by omega
     subst this
     exact ⟨he, fun d hd => g4 d hd⟩
 ·right; left
  rw [QV (by simp; omega)]
  refine ⟨_, rfl, fun hr => ?_⟩
  have hin := QiM h5 (fun y hy d hd => by
   obtain ⟨j, hj, rfl⟩ := List.mem_iff_getElem.1 hy
   exact (h6 j hj (by omega)).2 d hd) hr
  obtain ⟨j, hj, hjn⟩ := List.mem_iff_getElem.1 hin
  exact (h6 j hj (by omega)).1 hjn
theorem Qgv (pu : List (BitVec 8)) (l : List Sgd) (fo : List Qw) (li : List QB) (m n : Int) (hl : li.length ≤ 1000) {k1 k2 : Int} {b1 b2 : Bool} (h1 : JH (some (pu, l, fo, li)) m = some (k1, b1)) (h2 : JH (some (pu, l, fo, li)) n = some (k2, b2)) :
  ∃ b, JW (some (pu, l, fo, li)) m n = some b ∧ (b = true ↔ b1 = true ∧ b2 = true ∧ Rch li m n) := by
 unfold JW
 rw [QV (by simp), Qc h1, Qc h2]
 dsimp only
 cases b1 with
 | false => rw [QQ (by simp), Option.bind_some, QQ (by simp)]; exact ⟨false, rfl, by simp⟩
 | true =>
  cases b2 with
  | false => rw [QV (by simp), Option.bind_some, QQ (by simp)]; exact ⟨false, rfl, by simp⟩
  | true =>
   rw [QV (by simp), Option.bind_some, QV (by simp)]
   obtain ⟨o, g1, g2⟩ := Qfx pu l fo li m n hl
   rw [Qc g1]
   cases o with
   | inl s => exact ⟨false, rfl, by simpa using (show ¬ Rch li m n from g2)⟩
   | inr x =>
    obtain ⟨rfl, g3⟩ : x = true ∧ Rch li m n := g2
    exact ⟨true, rfl, by simpa using g3⟩
end Pu
end Go.Sl
namespace Go.Sl.Fr
variable {H : Type}
abbrev P (H : Type) : Type := Nat × Nat × H
def push (nd : H → H → H) : List (P H) → P H → List (P H)
 | [], x => [x]
 | y :: st, x => if y.2.1 = x.2.1 ∧ 2 ^ (y.2.1 + 1) ∣ y.1 then push nd st (y.1, y.2.1 + 1, nd y.2.2 x.2.2) else x :: y :: st
def Ct (a : Nat) : List (P H) → Nat → Prop
 | [], e => a = e
 | y :: st, e => y.1 + 2 ^ y.2.1 = e ∧ 2 ^ y.2.1 ∣ y.1 ∧ Ct a st y.1
def Nf : List (P H) → Prop
 | [] => True
 | [_] => True
 | x :: y :: st => ¬ (y.2.1 = x.2.1 ∧ 2 ^ (y.2.1 + 1) ∣ y.1) ∧ Nf (y :: st)
theorem UW {i j : Nat} (h : i ≤ j) : 2 ^ i ∣ 2 ^ j := Nat.pow_dvd_pow 2 h
theorem XC (k : Nat) : 2 ^ (k + 1) = 2 ^ k + 2 ^ k := by rw [Nat.pow_succ]; omega
theorem ZD (k : Nat) : 0 < 2 ^ k := Nat.pow_pos (by omega)
theorem Qbr {k p : Nat} (h : 2 ^ (k + 1) ∣ p) : ¬ 2 ^ (k + 1) ∣ p + 2 ^ k := by
 intro hd
 have h2 : 2 ^ (k + 1) ∣ 2 ^ k := (Nat.dvd_add_right h).1 hd
 have := Nat.le_of_dvd (ZD k) h2
 have := XC k
 have := ZD k
 omega
theorem Qci {k p : Nat} (h : 2 ^ k ∣ p) (hn : ¬ 2 ^ (k + 1) ∣ p) : 2 ^ (k + 1) ∣ p + 2 ^ k := by
 obtain ⟨m, rfl⟩ := h
 have hp : 2 ^ (k + 1) = 2 ^ k * 2 := Nat.pow_succ ..
 have hm : m % 2 = 1 := by
  apply Decidable.byContradiction
  intro hc
  have : m = 2 * (m / 2) := by omega
  apply hn
  rw [hp]
  exact ⟨m / 2, by rw [Nat.mul_assoc, ← this]⟩
 have : m = 2 * (m / 2) + 1 := by omega
 refine ⟨m / 2 + 1, ?_⟩
 rw [hp, Nat.mul_assoc]
 calc 2 ^ k * m + 2 ^ k = 2 ^ k * (m + 1) := by rw [Nat.mul_add, Nat.mul_one]
  _ = 2 ^ k * (2 * (m / 2 + 1)) := congrArg (2 ^ k * ·) (by omega)
theorem QbY (nd : H → H → H) {a : Nat} : ∀ (st : List (P H)) (x : P H), Ct a st x.1 → 2 ^ x.2.1 ∣ x.1 → Ct a (push nd st x) (x.1 + 2 ^ x.2.1)
 | [], x, h, hd => ⟨rfl, hd, h⟩
 | y :: st, x, h, hd => by
  unfold push
  split
  ·rename_i hc
   have := QbY nd st (y.1, y.2.1 + 1, nd y.2.2 x.2.2) h.2.2 hc.2
   have e : y.1 + 2 ^ (y.2.1 + 1) = x.1 + 2 ^ x.2.1 := by rw [XC, ← hc.1, ← h.1]; omega
   rw [← e]; exact this
  ·exact ⟨rfl, hd, h⟩
theorem QkC {x : P H} {st : List (P H)} (h : Nf (x :: st)) : Nf st := by
 cases st with
 | nil => trivial
 | cons y st => exact h.2
theorem QgF (nd : H → H → H) : ∀ (st : List (P H)) (x : P H), Nf st → Nf (push nd st x)
 | [], x, h => trivial
 | y :: st, x, h => by
  unfold push
  split
  ·exact QgF nd st _ (QkC h)
  ·rename_i hc
   exact ⟨hc, h⟩
def Hs (V : Nat → Nat → H) (st : List (P H)) : Prop := ∀ x ∈ st, x.2.2 = V x.1 x.2.1
theorem QgR {nd : H → H → H} {V : Nat → Nat → H} {a e : Nat} (hV : ∀ p k, a ≤ p → p + 2 ^ (k + 1) ≤ e → 2 ^ (k + 1) ∣ p → V p (k + 1) = nd (V p k) (V (p + 2 ^ k) k)) : ∀ (st : List (P H)) (x : P H), Ct a st x.1 → x.1 + 2 ^ x.2.1 ≤ e → x.2.2 = V x.1 x.2.1 → Hs V st → Hs V (push nd st x)
 | [], x, hc, he, hx, h => by intro z hz; rw [List.mem_singleton.1 hz]; exact hx
 | y :: st, x, hc, he, hx, h => by
  unfold push
  split
  ·rename_i hm
   have hy := h y (List.mem_cons_self ..)
   have e1 : y.1 + 2 ^ (y.2.1 + 1) = x.1 + 2 ^ x.2.1 := by rw [XC, ← hm.1, ← hc.1]; omega
   have ha : a ≤ y.1 := by
    have : ∀ (st : List (P H)) (q : Nat), Ct a st q → a ≤ q := by
     intro st
     induction st with
     | nil => intro q h; exact Nat.le_of_eq h
     | cons z st ih => intro q h; have h2 := ih _ h.2.2; have h1 : z.1 + 2 ^ z.2.1 = q := h.1; exact Nat.le_trans h2 (by rw [← h1]; exact Nat.le_add_right _ _)
    exact this _ _ hc.2.2
   refine QgR hV st _ hc.2.2 ?_ ?_ (fun z hz => h z (List.mem_cons_of_mem _ hz))
   ·show y.1 + 2 ^ (y.2.1 + 1) ≤ e
    rw [e1]; exact he
   ·show nd y.2.2 x.2.2 = V y.1 (y.2.1 + 1)
    rw [hV y.1 y.2.1 ha (by rw [e1]; exact he) hm.2, hy, hx, hm.1, ← hc.1, hm.1]
  ·intro z hz
   rcases List.mem_cons.1 hz with rfl | hz
   ·exact hx
   ·exact h z hz
def K3 (nd : H → H → H) (st L : List (P H)) : List (P H) := L.foldl (push nd) st
theorem Qd1 (nd : H → H → H) : ∀ (L st : List (P H)), Nf st → Nf (K3 nd st L)
 | [], st, h => h
 | x :: L, st, h => Qd1 nd L _ (QgF nd st x h)
def Fw : Nat → List (P H) → Nat → Prop
 | a, [], e => a = e
 | a, x :: L, e => x.1 = a ∧ 2 ^ x.2.1 ∣ x.1 ∧ Fw (x.1 + 2 ^ x.2.1) L e
def NfF : List (P H) → Prop
 | [] => True
 | [_] => True
 | x :: y :: L => ¬ (x.2.1 = y.2.1 ∧ 2 ^ (x.2.1 + 1) ∣ x.1) ∧ NfF (y :: L)
theorem QfS : ∀ (L M : List (P H)) (a b c : Nat), Fw a L b → Fw b M c → Fw a (L ++ M) c
 | [], M, a, b, c, h, h' => by cases h; exact h'
 | x :: L, M, a, b, c, h, h' => ⟨h.1, h.2.1, QfS L M _ b c h.2.2 h'⟩
theorem QeM : ∀ (L : List (P H)) (a e : Nat), Fw a L e → a + L.length ≤ e
 | [], a, e, h => by cases h; simp
 | x :: L, a, e, h => by
  have := QeM L _ _ h.2.2
  have := h.1
  have := ZD x.2.1
  simp only [List.length_cons]; omega
theorem Qjk : ∀ (st : List (P H)) (a e : Nat), Ct a st e → Fw a st.reverse e
 | [], a, e, h => h
 | x :: st, a, e, h => by
  rw [List.reverse_cons]
  exact QfS _ _ _ _ _ (Qjk st a _ h.2.2) ⟨rfl, h.2.1, h.1⟩
theorem Qg4 : ∀ (L : List (P H)) (y x : P H), NfF (L ++ [y]) → ¬ (y.2.1 = x.2.1 ∧ 2 ^ (y.2.1 + 1) ∣ y.1) → NfF (L ++ [y, x])
 | [], y, x, h, hn => ⟨hn, trivial⟩
 | [z], y, x, h, hn => ⟨h.1, hn, trivial⟩
 | z :: w :: L, y, x, h, hn => ⟨h.1, Qg4 (w :: L) y x h.2 hn⟩
theorem Qea : ∀ (st : List (P H)), Nf st → NfF st.reverse
 | [], _ => trivial
 | [x], _ => trivial
 | x :: y :: st, h => by
  rw [List.reverse_cons, List.reverse_cons, List.append_assoc]
  exact Qg4 _ y x (by rw [← List.reverse_cons]; exact Qea (y :: st) h.2) h.1
theorem qi (nd : H → H → H) {a : Nat} : ∀ (L st : List (P H)) (b e : Nat), Ct a st b → Fw b L e → Ct a (K3 nd st L) e
 | [], st, b, e, h, h' => by cases h'; exact h
 | x :: L, st, b, e, h, h' => qi nd L _ _ e (QbY nd st x (by rw [h'.1]; exact h) h'.2.1) h'.2.2
theorem Qeh {nd : H → H → H} {V : Nat → Nat → H} {a E : Nat} (hV : ∀ p k, a ≤ p → p + 2 ^ (k + 1) ≤ E → 2 ^ (k + 1) ∣ p → V p (k + 1) = nd (V p k) (V (p + 2 ^ k) k)) : ∀ (L st : List (P H)) (b e : Nat), Ct a st b → Fw b L e → e ≤ E → Hs V st → Hs V L → Hs V (K3 nd st L)
 | [], st, b, e, h, h', he, hs, hl => hs
 | x :: L, st, b, e, h, h', he, hs, hl => by
  have hle := QeM L _ _ h'.2.2
  exact Qeh hV L _ _ e (QbY nd st x (by rw [h'.1]; exact h) h'.2.1) h'.2.2 he (QgR hV st x (by rw [h'.1]; exact h) (by omega) (hl x (List.mem_cons_self ..)) hs) (fun z hz => hl z (List.mem_cons_of_mem _ hz))
theorem Qc9 (nd : H → H → H) : ∀ (L : List (P H)) (st : List (P H)), NfF L → (∀ y ∈ st.head?, ∀ x ∈ L.head?, ¬ (y.2.1 = x.2.1 ∧ 2 ^ (y.2.1 + 1) ∣ y.1)) → K3 nd st L = L.reverse ++ st
 | [], st, h, hh => rfl
 | x :: L, st, h, hh => by
  have h1 : push nd st x = x :: st := by
   cases st with
   | nil => rfl
   | cons y st =>
    unfold push
    rw [if_neg (hh y rfl x rfl)]
  show K3 nd (push nd st x) L = _
  rw [h1, Qc9 nd L (x :: st) (by cases L with | nil => trivial | cons z L => exact h.2) (by
   intro y hy z hz
   cases hy
   cases L with
   | nil => cases hz
   | cons w L => cases hz; exact h.1)]
  simp
def qy (a d k : Nat) : Prop := 2 ^ k ≤ d ∧ 2 ^ k ∣ a ∧ ¬ (2 ^ (k + 1) ≤ d ∧ 2 ^ (k + 1) ∣ a)
theorem Qg1 {a d k k' : Nat} (h : qy a d k) (h' : 2 ^ k' ≤ d ∧ 2 ^ k' ∣ a) : k' ≤ k := by
 apply Decidable.byContradiction
 intro hc
 apply h.2.2
 exact ⟨Nat.le_trans (Nat.pow_le_pow_right (by omega) (by omega)) h'.1, Nat.dvd_trans (UW (by omega)) h'.2⟩
theorem qe {a d k k' : Nat} (h : qy a d k) (h' : qy a d k') : k = k' :=
 Nat.le_antisymm (Qg1 h' ⟨h.1, h.2.1⟩) (Qg1 h ⟨h'.1, h'.2.1⟩)
def Seg : Nat → Nat → List Nat → Prop
 | a, e, [] => a = e
 | a, e, k :: ks => a < e ∧ qy a (e - a) k ∧ Seg (a + 2 ^ k) e ks
theorem Qcu : ∀ (ks ks' : List Nat) (a e : Nat), Seg a e ks → Seg a e ks' → ks = ks'
 | [], [], a, e, h, h' => rfl
 | [], k :: ks, a, e, h, h' => by have := h'.1; have h : a = e := h; omega
 | k :: ks, [], a, e, h, h' => by have := h.1; have h : a = e := h'; omega
 | k :: ks, k' :: ks', a, e, h, h' => by
  have := qe h.2.1 h'.2.1
  subst this
  rw [Qcu ks ks' _ e h.2.2 h'.2.2]
theorem QdR : ∀ (ks : List Nat) (a e : Nat), Seg a e ks → a + ks.length ≤ e
 | [], a, e, h => by have h : a = e := h; simp; omega
 | k :: ks, a, e, h => by
  have := QdR ks _ _ h.2.2
  have := ZD k
  simp only [List.length_cons]; omega
theorem QfO : ∀ (s p e : Nat) (x : P H) (L : List (P H)), Fw p (x :: L) e → NfF (x :: L) → 2 ^ s ∣ p → ¬ 2 ^ (s + 1) ∣ p → p + 2 ^ s ≤ e → x.2.1 = s := by
 intro s
 induction s using Nat.strongRecOn with
 | ind s ih =>
  intro p e x L hf hn hd hnd hle
  have hx := hf.1
  have hxd := hf.2.1
  have hle' : x.2.1 ≤ s := by
   apply Decidable.byContradiction
   intro hc
   exact hnd (Nat.dvd_trans (UW (by omega)) (hx ▸ hxd))
  rcases Nat.lt_or_ge x.2.1 s with hlt | hge
  ·exfalso
   have hd2 : 2 ^ (x.2.1 + 1) ∣ x.1 := by rw [hx]; exact Nat.dvd_trans (UW (by omega)) hd
   have hp : 2 ^ x.2.1 < 2 ^ s := Nat.pow_lt_pow_right (by omega) hlt
   have hp2 : 2 ^ (x.2.1 + 1) ≤ 2 ^ s := Nat.pow_le_pow_right (by omega) (by omega)
   have hps := XC x.2.1
   cases L with
   | nil =>
    have h2 : x.1 + 2 ^ x.2.1 = e := hf.2.2
    omega
   | cons y L =>
    have hy := ih x.2.1 hlt (x.1 + 2 ^ x.2.1) e y L hf.2.2 hn.2 (Nat.dvd_add (hxd) (Nat.dvd_refl _)) (Qbr hd2) (by omega)
    exact hn.1 ⟨hy.symm, hd2⟩
  ·omega
theorem U2 : ∀ (L : List (P H)) (a e : Nat), Fw a L e → NfF L → Seg a e (L.map (fun x => x.2.1))
 | [], a, e, hf, hn => hf
 | x :: L, a, e, hf, hn => by
  have hle := QeM L _ _ hf.2.2
  have hx := hf.1
  have hp := ZD x.2.1
  show a < e ∧ qy a (e - a) x.2.1 ∧ Seg (a + 2 ^ x.2.1) e (L.map (fun x => x.2.1))
  refine ⟨by omega, ⟨by omega, hx ▸ hf.2.1, ?_⟩, ?_⟩
  ·rintro ⟨h1, h2⟩
   have hps := XC x.2.1
   cases L with
   | nil => have h3 : x.1 + 2 ^ x.2.1 = e := hf.2.2; omega
   | cons y L =>
    rw [← hx] at h2
    have hy := QfO x.2.1 (x.1 + 2 ^ x.2.1) e y L hf.2.2 hn.2 (Nat.dvd_add hf.2.1 (Nat.dvd_refl _)) (Qbr h2) (by omega)
    exact hn.1 ⟨hy.symm, h2⟩
  ·have := U2 L _ e hf.2.2 (by cases L with | nil => trivial | cons y L => exact hn.2)
   rw [hx] at this
   exact this
theorem Qli {a e k j : Nat} (h : qy a (e - a) k) (h2 : qy (a + 2 ^ k) (e - (a + 2 ^ k)) j) (hl : a + 2 ^ k < e) : ¬ (k = j ∧ 2 ^ (k + 1) ∣ a) := by
 rintro ⟨rfl, hd⟩
 refine h.2.2 ⟨?_, hd⟩
 have := h2.1
 have := XC k
 omega
def lay : Nat → List Nat → List H → List (P H)
 | a, k :: ks, h :: hs => (a, k, h) :: lay (a + 2 ^ k) ks hs
 | _, _, _ => []
theorem QiZ : ∀ (ks : List Nat) (hs : List H) (a e : Nat), Seg a e ks → ks.length = hs.length → Fw a (lay a ks hs) e
 | [], [], a, e, h, hl => h
 | k :: ks, h :: hs, a, e, hg, hl => ⟨rfl, hg.2.1.2.1, QiZ ks hs _ e hg.2.2 (by simpa using hl)⟩
theorem Qiu : ∀ (ks : List Nat) (hs : List H) (a e : Nat), Seg a e ks → ks.length = hs.length → NfF (lay a ks hs)
 | [], [], a, e, h, hl => trivial
 | [k], [h], a, e, hg, hl => trivial
 | k :: j :: ks, h :: h' :: hs, a, e, hg, hl => ⟨Qli hg.2.1 hg.2.2.2.1 hg.2.2.1, Qiu (j :: ks) (h' :: hs) _ e hg.2.2 (by simpa using hl)⟩
theorem QkL : ∀ (ks : List Nat) (hs : List H) (a : Nat), ks.length = hs.length → (lay a ks hs).map (fun x => x.2.1) = ks
 | [], [], a, hl => rfl
 | k :: ks, h :: hs, a, hl => by
  show k :: _ = _
  rw [show List.map (fun x => x.2.1) (lay (a + 2 ^ k) ks hs) = ks from QkL ks hs _ (by simpa using hl)]
theorem QkR : ∀ (ks : List Nat) (hs : List H) (a : Nat), ks.length = hs.length → (lay a ks hs).map (fun x => x.2.2) = hs
 | [], [], a, hl => rfl
 | k :: ks, h :: hs, a, hl => by
  show h :: _ = _
  rw [show List.map (fun x => x.2.2) (lay (a + 2 ^ k) ks hs) = hs from QkR ks hs _ (by simpa using hl)]
theorem QdT : ∀ (L : List (P H)) (a e : Nat), Fw a L e → lay a (L.map (fun x => x.2.1)) (L.map (fun x => x.2.2)) = L
 | [], a, e, h => rfl
 | x :: L, a, e, h => by
  obtain ⟨p, k, q⟩ := x
  have h1 : p = a := h.1
  subst h1
  show (p, k, q) :: lay (p + 2 ^ k) _ _ = _
  rw [QdT L _ e h.2.2]
theorem Bp : ∀ (ks : List Nat) (a e j : Nat), Seg a e ks → (∀ i, 2 ^ i ≤ e - a → 2 ^ i ∣ a) → e - a < 2 ^ j → ks.length ≤ j
 | [], a, e, j, h, ha, hj => by simp
 | k :: ks, a, e, j, h, ha, hj => by
  have hk := h.2.1
  have hd : e - a < 2 ^ (k + 1) := by
   apply Decidable.byContradiction
   intro hc
   exact hk.2.2 ⟨by omega, ha _ (by omega)⟩
  have hps := XC k
  have hkj : k < j := (Nat.pow_lt_pow_iff_right (a := 2) (by omega)).1 (Nat.lt_of_le_of_lt hk.1 hj)
  have := Bp ks (a + 2 ^ k) e k h.2.2 (fun i hi => by
   have h1 : 2 ^ i < 2 ^ k := by have := hk.1; omega
   have h2 : i < k := (Nat.pow_lt_pow_iff_right (a := 2) (by omega)).1 h1
   exact Nat.dvd_add (ha i (by have := hk.1; omega)) (UW (by omega))) (by have := hk.1; omega)
  simp only [List.length_cons]; omega
theorem QgU : ∀ (ks : List Nat) (a e i j : Nat), Seg a e ks → 2 ^ i ∣ a → i ≤ j → e - a < 2 ^ j → ks.length ≤ (j - i) + j
 | [], a, e, i, j, h, ha, hi, hj => by simp
 | k :: ks, a, e, i, j, h, ha, hi, hj => by
  have hk := h.2.1
  have hkj : k < j := (Nat.pow_lt_pow_iff_right (a := 2) (by omega)).1 (Nat.lt_of_le_of_lt hk.1 hj)
  by_cases hd : 2 ^ (k + 1) ∣ a
  ·have := Bp (k :: ks) a e j h (fun m hm => by
    have : m ≤ k := by
     apply Decidable.byContradiction
     intro hc
     exact hk.2.2 ⟨Nat.le_trans (Nat.pow_le_pow_right (by omega) (by omega)) hm, hd⟩
    exact Nat.dvd_trans (UW this) hk.2.1) hj
   omega
  ·have hik : i ≤ k := by
    apply Decidable.byContradiction
    intro hc
    exact hd (Nat.dvd_trans (UW (by omega)) ha)
   have := QgU ks (a + 2 ^ k) e (k + 1) j h.2.2 (Qci hk.2.1 hd) (by omega) (by omega)
   simp only [List.length_cons]; omega
theorem QkJ {ks : List Nat} {a e : Nat} (h : Seg a e ks) (he : e ≤ 2147483647) : ks.length ≤ 62 := by
 have := QgU ks a e 0 31 h (by simp) (by omega) (by omega)
 omega
theorem QeQ (a d : Nat) (hd : 0 < d) : ∃ k, qy a d k := by
 have : ∀ (n k : Nat), 2 ^ k ≤ d → 2 ^ k ∣ a → d < 2 ^ (k + n) → ∃ k, qy a d k := by
  intro n
  induction n with
  | zero => intro k h1 h2 h3; exact absurd h3 (by simpa using h1)
  | succ n ih =>
   intro k h1 h2 h3
   by_cases h : 2 ^ (k + 1) ≤ d ∧ 2 ^ (k + 1) ∣ a
   ·exact ih (k + 1) h.1 h.2 (by rw [show k + 1 + n = k + (n + 1) by omega]; exact h3)
   ·exact ⟨k, h1, h2, h⟩
 exact this d 0 (by rw [Nat.pow_zero]; omega) (by simp) (by rw [Nat.zero_add]; exact Nat.lt_pow_self (by omega))
theorem QcO : ∀ (n a e : Nat), a ≤ e → e - a ≤ n → ∃ ks, Seg a e ks := by
 intro n
 induction n with
 | zero => intro a e h hn; exact ⟨[], by show a = e; omega⟩
 | succ n ih =>
  intro a e h hn
  by_cases hl : a < e
  ·obtain ⟨k, hk⟩ := QeQ a (e - a) (by omega)
   have := ZD k
   have := hk.1
   obtain ⟨ks, hks⟩ := ih (a + 2 ^ k) e (by omega) (by omega)
   exact ⟨k :: ks, hl, hk, hks⟩
  ·exact ⟨[], by show a = e; omega⟩
end Go.Sl.Fr
set_option maxRecDepth 20000
namespace Go.Sl
theorem Qlq (a k : Nat) (hk : k ≤ 64) (h : a * 2 ^ k < 9223372036854775808) : Xq (a : Int) (k : Int) = ((a * 2 ^ k : Nat) : Int) := by
 unfold Xq
 rw [Int.toNat_natCast, Nat.min_eq_left hk]
 have : ((2 : Int) ^ k) = ((2 ^ k : Nat) : Int) := by simp
 rw [this, ← Int.natCast_mul, qm h]
namespace Pu
open Go.Sl Go.Sl.M Go.Sl.Fr
theorem QlT : ∀ i : Fin 256, ∃ h : i.val < S_0.length, (i.val = 0 ∨ 2 ^ ((S_0[i.val]'h).toNat - 1) ≤ i.val) ∧ i.val < 2 ^ (S_0[i.val]'h).toNat ∧ (i.val ≠ 0 → 1 ≤ (S_0[i.val]'h).toNat) ∧ (S_0[i.val]'h).toNat ≤ 8 := by decide
theorem Qg2 (x : BitVec 64) (n : Nat) (hx : x.toNat = n) (h : n < 256) : ∃ r : BitVec 8, ZC S_0 ((x.setWidth 8).toNat : Int) = some r ∧ (n = 0 ∨ 2 ^ (r.toNat - 1) ≤ n) ∧ n < 2 ^ r.toNat ∧ (n ≠ 0 → 1 ≤ r.toNat) ∧ r.toNat ≤ 8 := by
 have e : (x.setWidth 8).toNat = n := by
  rw [BitVec.toNat_setWidth, hx]; exact Nat.mod_eq_of_lt (by omega)
 obtain ⟨h1, h2, h3, h4, h5⟩ := QlT ⟨n, h⟩
 refine ⟨S_0[n], Ju (by rw [e]) h1, h2, h3, h4, h5⟩
theorem Qeb {n s r : Nat} (hr : 1 ≤ r) (h1 : 2 ^ (r - 1) ≤ n / 2 ^ s) (h2 : n / 2 ^ s < 2 ^ r) : 2 ^ (r + s - 1) ≤ n ∧ n < 2 ^ (r + s) := by
 constructor
 ·rw [show r + s - 1 = (r - 1) + s by omega, Nat.pow_add]
  exact (Nat.le_div_iff_mul_le (ZD s)).1 h1
 ·rw [Nat.pow_add]
  exact (Nat.div_lt_iff_lt_mul (ZD s)).1 h2
theorem Qlc (n : Nat) (h0 : 0 < n) (h : n < 4294967296) : ∃ r : Nat, Km (BitVec.ofInt 64 (n : Int)) = some (r : Int) ∧ 1 ≤ r ∧ r ≤ 32 ∧ 2 ^ (r - 1) ≤ n ∧ n < 2 ^ r := by
 have e0 : BitVec.ofInt 64 (n : Int) = BitVec.ofNat 64 n := by apply BitVec.eq_of_toNat_eq; simp
 have ex : (BitVec.ofNat 64 n).toNat = n := by rw [BitVec.toNat_ofNat]; exact Nat.mod_eq_of_lt (by omega)
 rw [e0]
 generalize hx : BitVec.ofNat 64 n = x at ex
 unfold Km
 suffices hs : ∃ r : Nat, Vr x = some (r : Int) ∧ 1 ≤ r ∧ r ≤ 32 ∧ 2 ^ (r - 1) ≤ n ∧ n < 2 ^ r by
  obtain ⟨r, h1, h2⟩ := hs
  exact ⟨r, by rw [Qc h1], h2⟩
 unfold Vr
 rw [QV (by rw [decide_eq_true_eq, BitVec.le_def, ex]; show ¬ 4294967296 ≤ n; omega), Option.bind_some]
 by_cases h16 : 65536 ≤ n
 ·have e1 : (x >>> 16).toNat = n / 2 ^ 16 := by rw [BitVec.toNat_ushiftRight, ex, Nat.shiftRight_eq_div_pow]
  rw [QQ (by rw [decide_eq_true_eq, BitVec.le_def, ex]; show 65536 ≤ n; omega), Option.bind_some]
  by_cases h8 : 256 ≤ n / 2 ^ 16
  ·have e2 : (x >>> 16 >>> 8).toNat = n / 2 ^ 24 := by rw [BitVec.toNat_ushiftRight, e1, Nat.shiftRight_eq_div_pow, Nat.div_div_eq_div_mul]
   obtain ⟨r, h1, h2, h3, h4, h5⟩ := Qg2 (x >>> 16 >>> 8) _ e2 (by omega)
   have hne : n / 2 ^ 24 ≠ 0 := by omega
   have hr := h4 hne
   rw [QQ (by rw [decide_eq_true_eq, BitVec.le_def, e1]; show 256 ≤ n / 2 ^ 16; omega), Option.bind_some, Qc h1]
   refine ⟨r.toNat + 24, ?_, by omega, by omega, ?_⟩
   ·rw [Jm (n := 0 + 16) (by omega) (by omega), Jm (n := 0 + 16 + 8) (by omega) (by omega), Jm (by omega) (by omega)]
    refine congrArg some ?_; omega
   ·have := Qeb (s := 24) hr (h2.resolve_left hne) h3
    exact this
  ·obtain ⟨r, h1, h2, h3, h4, h5⟩ := Qg2 (x >>> 16) _ e1 (by omega)
   have hne : n / 2 ^ 16 ≠ 0 := by omega
   have hr := h4 hne
   rw [QV (by rw [decide_eq_true_eq, BitVec.le_def, e1]; show ¬ 256 ≤ n / 2 ^ 16; omega), Option.bind_some, Qc h1]
   refine ⟨r.toNat + 16, ?_, by omega, by omega, ?_⟩
   ·rw [Jm (n := 0 + 16) (by omega) (by omega), Jm (by omega) (by omega)]
    refine congrArg some ?_; omega
   ·have := Qeb (s := 16) hr (h2.resolve_left hne) h3
    exact this
 ·rw [QV (by rw [decide_eq_true_eq, BitVec.le_def, ex]; show ¬ 65536 ≤ n; omega), Option.bind_some]
  by_cases h8 : 256 ≤ n
  ·have e2 : (x >>> 8).toNat = n / 2 ^ 8 := by rw [BitVec.toNat_ushiftRight, ex, Nat.shiftRight_eq_div_pow]
   obtain ⟨r, h1, h2, h3, h4, h5⟩ := Qg2 (x >>> 8) _ e2 (by omega)
   have hne : n / 2 ^ 8 ≠ 0 := by omega
   have hr := h4 hne
   rw [QQ (by rw [decide_eq_true_eq, BitVec.le_def, ex]; show 256 ≤ n; omega), Option.bind_some, Qc h1]
   refine ⟨r.toNat + 8, ?_, by omega, by omega, ?_⟩
   ·rw [Jm (n := 0 + 8) (by omega) (by omega), Jm (by omega) (by omega)]
    refine congrArg some ?_; omega
   ·have := Qeb (s := 8) hr (h2.resolve_left hne) h3
    exact this
  ·obtain ⟨r, h1, h2, h3, h4, h5⟩ := Qg2 x _ ex (by omega)
   have hr := h4 (by omega)
   rw [QV (by rw [decide_eq_true_eq, BitVec.le_def, ex]; show ¬ 256 ≤ n; omega), Option.bind_some, Qc h1]
   refine ⟨r.toNat, ?_, by omega, by omega, h2.resolve_left (by omega), h3⟩
   rw [Jm (by omega) (by omega)]
   refine congrArg some ?_; omega
theorem QeV (a b j : Nat) (h : a + b + 1 = 2 ^ j) : (2 * a + 1) &&& (2 * b + 1) = 1 := by
 apply Nat.eq_of_testBit_eq
 intro i
 rw [Nat.testBit_and]
 cases i with
 | zero => simp [Nat.testBit_zero]
 | succ i =>
  have hb : b = 2 ^ j - (a + 1) := by omega
  have ha : a < 2 ^ j := by omega
  have e1 : (2 * a + 1).testBit (i + 1) = a.testBit i := by rw [Nat.testBit_succ]; congr 1; omega
  have e2 : (2 * b + 1).testBit (i + 1) = b.testBit i := by rw [Nat.testBit_succ]; congr 1; omega
  rw [e1, e2, hb, Nat.testBit_two_pow_sub_succ ha]
  rw [show Nat.testBit 1 (i + 1) = false from by rw [Nat.testBit_succ]; simp]
  cases a.testBit i <;> simp
theorem Qho (n : Nat) (h : 0 < n) : ∃ k m, n = 2 ^ k * (2 * m + 1) := by
 induction n using Nat.strongRecOn with
 | ind n ih =>
  by_cases ho : n % 2 = 1
  ·exact ⟨0, n / 2, by omega⟩
  ·obtain ⟨k, m, hk⟩ := ih (n / 2) (by omega) (by omega)
   refine ⟨k + 1, m, ?_⟩
   rw [Nat.pow_succ, Nat.mul_comm (2 ^ k) 2, Nat.mul_assoc, ← hk]; omega
theorem Qj6 (x : BitVec 64) (k m : Nat) (h : x.toNat = 2 ^ k * (2 * m + 1)) : x &&& (-x) = BitVec.ofNat 64 (2 ^ k) ∧ k < 64 := by
 have hx := x.isLt
 have hk : k < 64 := by
  apply Decidable.byContradiction
  intro hc
  have h1 : 2 ^ 64 ≤ 2 ^ k := Nat.pow_le_pow_right (by omega) (by omega)
  have h2 : 2 ^ k * 1 ≤ 2 ^ k * (2 * m + 1) := Nat.mul_le_mul_left _ (by omega)
  omega
 refine ⟨?_, hk⟩
 apply BitVec.eq_of_toNat_eq
 have hp : (2 : Nat) ^ 64 = 2 ^ k * 2 ^ (64 - k) := by rw [← Nat.pow_add]; congr 1; omega
 have hp2 : (2 : Nat) ^ (64 - k) = 2 * 2 ^ (63 - k) := by rw [show 64 - k = (63 - k) + 1 by omega, Nat.pow_succ]; omega
 have hm : 2 * m + 1 < 2 ^ (64 - k) := by
  have : 2 ^ k * (2 * m + 1) < 2 ^ k * 2 ^ (64 - k) := by rw [← hp, ← h]; exact hx
  exact Nat.lt_of_mul_lt_mul_left this
 have hneg : (-x).toNat = 2 ^ k * (2 * (2 ^ (63 - k) - 1 - m) + 1) := by
  have h0 : 0 < x.toNat := by rw [h]; exact Nat.mul_pos (ZD k) (by omega)
  rw [BitVec.toNat_neg, Nat.mod_eq_of_lt (by omega), h, hp, ← Nat.mul_sub]
  congr 1; omega
 rw [BitVec.toNat_and, h, hneg, BitVec.toNat_ofNat, Nat.mod_eq_of_lt (Nat.pow_lt_pow_right (by omega) hk)]
 rw [Nat.mul_comm, Nat.mul_comm (2 ^ k), ← Nat.shiftLeft_eq, ← Nat.shiftLeft_eq, ← Nat.shiftLeft_and_distrib, QeV m (2 ^ (63 - k) - 1 - m) (63 - k) (by omega), Nat.shiftLeft_eq, Nat.one_mul]
theorem QkW : ∀ k : Fin 64, ∃ h : (((BitVec.ofNat 64 (2 ^ k.val)) * (285870213051353865#64)) >>> 58).toNat < 64, (Zq[(((BitVec.ofNat 64 (2 ^ k.val)) * (285870213051353865#64)) >>> 58).toNat]'h).toNat = k.val := by decide
theorem QlL (a : Nat) (h0 : 0 < a) (ha : a < 9223372036854775808) : ∃ k : Nat, Ym (BitVec.ofInt 64 (a : Int)) = some (k : Int) ∧ k < 64 ∧ 2 ^ k ∣ a ∧ ¬ 2 ^ (k + 1) ∣ a := by
 have e0 : BitVec.ofInt 64 (a : Int) = BitVec.ofNat 64 a := by apply BitVec.eq_of_toNat_eq; simp
 have ex : (BitVec.ofNat 64 a).toNat = a := by rw [BitVec.toNat_ofNat]; exact Nat.mod_eq_of_lt (by omega)
 rw [e0]
 generalize hx : BitVec.ofNat 64 a = x at ex
 obtain ⟨k, m, hk⟩ := Qho a h0
 obtain ⟨h1, h2⟩ := Qj6 x k m (by rw [ex, hk])
 refine ⟨k, ?_, h2, ⟨_, hk⟩, ?_⟩
 ·unfold Ym
  have : ZY x = some (k : Int) := by
   unfold ZY
   rw [QV (by rw [decide_eq_true_eq]; intro h; rw [h] at ex; simp at ex; omega), h1]
   obtain ⟨h3, h4⟩ := QkW ⟨k, h2⟩
   rw [Qc (Qej rfl h3)]
   exact congrArg (fun n : Nat => some (n : Int)) h4
  rw [Qc this]
 ·rintro ⟨c, hc⟩
  rw [hk, Nat.pow_succ, Nat.mul_assoc] at hc
  have := Nat.eq_of_mul_eq_mul_left (ZD k) hc
  omega
def p2 (k : Nat) : Int := ((2 ^ k : Nat) : Int)
theorem Qcx {k n : Nat} (h : 2 ^ k ≤ n) (hn : n ≤ 2147483647) : k < 31 := by
 apply Decidable.byContradiction
 intro hc
 have : 2 ^ 31 ≤ 2 ^ k := Nat.pow_le_pow_right (by omega) (by omega)
 omega
theorem Qgi (a e k : Nat) (hl : a < e) (he : e ≤ 2147483647) (h : qy a (e - a) k) : Xh (a : Int) (e : Int) = some (p2 k) := by
 unfold Xh
 obtain ⟨r, h1, h2, h3, h4, h5⟩ := Qlc (e - a) (by omega) (by omega)
 rw [Jm (n := (e : Int) - (a : Int)) (by omega) (by omega), show (e : Int) - (a : Int) = ((e - a : Nat) : Int) by omega, Qc h1, Jm (n := (r : Int) - 1) (by omega) (by omega), show (r : Int) - 1 = ((r - 1 : Nat) : Int) by omega, QQ (by omega)]
 have hs : ∀ j : Nat, j ≤ 62 → Xq (1 : Int) (j : Int) = p2 j := fun j hj => by
  have : 2 ^ j ≤ 2 ^ 62 := Nat.pow_le_pow_right (by omega) hj
  have := Qlq 1 j (by omega) (by rw [Nat.one_mul]; omega)
  rw [Nat.one_mul] at this
  exact this
 have hr31 : r - 1 < 31 := Qcx h4 (by omega)
 by_cases h0 : 0 < a
 ·rw [QQ (by rw [decide_eq_true_eq]; omega)]
  obtain ⟨z, z1, z2, z3, z4⟩ := QlL a h0 (by omega)
  have hz : 2 ^ z ≤ a := Nat.le_of_dvd h0 z3
  have hz31 : z < 31 := Qcx hz (by omega)
  rw [Qc z1, QQ (by omega), hs z (by omega), hs (r - 1) (by omega), Option.bind_some]
  by_cases hc : z < r - 1
  ·have : 2 ^ z < 2 ^ (r - 1) := Nat.pow_lt_pow_right (by omega) hc
   rw [QQ (by unfold p2; omega)]
   have : qy a (e - a) z := ⟨by omega, z3, fun hh => z4 hh.2⟩
   rw [qe this h]
  ·have : 2 ^ (r - 1) ≤ 2 ^ z := Nat.pow_le_pow_right (by omega) (by omega)
   rw [QV (by unfold p2; omega)]
   have : qy a (e - a) (r - 1) := ⟨h4, Nat.dvd_trans (UW (by omega)) z3, fun hh => by
    have := hh.1; rw [show r - 1 + 1 = r by omega] at this; omega⟩
   rw [qe this h]
 ·rw [QV (by rw [decide_eq_true_eq]; omega), hs (r - 1) (by omega)]
  have : qy a (e - a) (r - 1) := ⟨h4, by rw [show a = 0 by omega]; exact Nat.dvd_zero _, fun hh => by
    have := hh.1; rw [show r - 1 + 1 = r by omega] at this; omega⟩
  rw [qe this h]
theorem QaP (a m : Nat) : (Int.tmod (a : Int) (m : Int) = 0) ↔ m ∣ a := by
 rw [show Int.tmod (a : Int) (m : Int) = ((a % m : Nat) : Int) from rfl]
 rw [Nat.dvd_iff_mod_eq_zero]; omega
theorem QlB (a e k : Nat) (hl : a < e) (he : e ≤ 2147483647) (h : qy a (e - a) k) : Y3 (a : Int) (e : Int) = some (p2 k) := by
 unfold Y3
 have key : ∀ (n j : Nat), j + n = k → 2 ^ j ≤ e - a → ∀ fuel, n < fuel → Q5 (fun (s : Int) => ZK (e : Int) (a : Int) s) fuel (p2 j) = some (p2 k) := by
  intro n
  induction n with
  | zero =>
   intro j hj hle fuel hf
   obtain ⟨fuel, rfl⟩ : ∃ m, fuel = m + 1 := ⟨fuel - 1, by omega⟩
   have hjk : j = k := by omega
   subst hjk
   apply Xj
   simp only [ZK]
   have hps := XC j
   have hp := ZD j
   have e1 : w64 ((2 : Int) * p2 j) = ((2 ^ (j + 1) : Nat) : Int) := by unfold p2; rw [Jm (by omega) (by omega)]; omega
   have e2 : w64 ((e : Int) - (a : Int)) = ((e - a : Nat) : Int) := by rw [Jm (by omega) (by omega)]; omega
   rw [e1, e2]
   by_cases hc : 2 ^ (j + 1) ≤ e - a
   ·rw [QQ (by rw [decide_eq_true_eq]; omega), QQ (by omega), Option.bind_some, QV (by rw [decide_eq_true_eq, QaP]; intro hd; exact h.2.2 ⟨hc, hd⟩)]
   ·rw [QV (by rw [decide_eq_true_eq]; omega), Option.bind_some, QV (by decide)]
  | succ n ih =>
   intro j hj hle fuel hf
   obtain ⟨fuel, rfl⟩ : ∃ m, fuel = m + 1 := ⟨fuel - 1, by omega⟩
   have hps := XC j
   have hp := ZD j
   have hjk : 2 ^ (j + 1) ≤ 2 ^ k := Nat.pow_le_pow_right (by omega) (by omega)
   have hd : 2 ^ (j + 1) ∣ a := Nat.dvd_trans (UW (by omega)) h.2.1
   have hk1 := h.1
   have e1 : w64 ((2 : Int) * p2 j) = ((2 ^ (j + 1) : Nat) : Int) := by unfold p2; rw [Jm (by omega) (by omega)]; omega
   have e2 : w64 ((e : Int) - (a : Int)) = ((e - a : Nat) : Int) := by rw [Jm (by omega) (by omega)]; omega
   rw [YK (s' := p2 (j + 1))]
   ·exact ih (j + 1) (by omega) (by omega) fuel (by omega)
   ·simp only [ZK]
    rw [e1, e2, QQ (by rw [decide_eq_true_eq]; omega), QQ (by omega), Option.bind_some, QQ (by rw [decide_eq_true_eq, QaP]; exact hd)]
    rfl
 have hk31 : k < 31 := Qcx h.1 (by omega)
 have h1 := key k 0 (by omega) (by rw [Nat.pow_zero]; omega) FU (J7 (by omega))
 have h1' : Q5 (fun (s : Int) => ZK (e : Int) (a : Int) s) FU (1 : Int) = some (p2 k) := h1
 rw [Qc h1']
end Pu
end Go.Sl
set_option maxRecDepth 20000
namespace Go.Sl.Pu
open Go.Sl Go.Sl.M Go.Sl.Fr
noncomputable def Wh (a e : Nat) : List Nat := if h : a ≤ e then Classical.choose (QcO (e - a) a e h (Nat.le_refl _)) else []
theorem Ug {a e : Nat} (h : a ≤ e) : Seg a e (Wh a e) := by
 unfold Wh; rw [dif_pos h]; exact Classical.choose_spec (QcO (e - a) a e h (Nat.le_refl _))
theorem QhH {a e : Nat} {ks : List Nat} (h : a ≤ e) (hk : Seg a e ks) : Wh a e = ks := Qcu _ _ _ _ (Ug h) hk
theorem QiB (a e : Int) : V6 a e = some (decide (0 ≤ a ∧ a ≤ e ∧ e ≤ 2147483647)) := by
 unfold V6
 by_cases h1 : 0 ≤ a <;> by_cases h2 : a ≤ e <;> by_cases h3 : e ≤ 2147483647 <;> simp [h1, h2, h3]
theorem Qkg (a e : Int) : X2 a e = some (decide (0 ≤ a ∧ a ≤ e ∧ e ≤ 2147483647)) := by
 unfold X2
 by_cases h1 : 0 ≤ a <;> by_cases h2 : a ≤ e <;> by_cases h3 : e ≤ 2147483647 <;> simp [h1, h2, h3]
theorem QcR {n : Nat} (h : n ≤ 4294967296) : n ≤ AP := h
theorem Qhe {f : Int × List Int → Option (LR (Int × List Int) Empty)} {g : Int → Int → Option Int} {e : Nat} (hg : ∀ a k : Nat, a < e → qy a (e - a) k → g (a : Int) (e : Int) = some (p2 k)) (he : e ≤ 2147483647)
  (hf : ∀ y1 y2, f (y1, y2) = if (decide (y1 < (e : Int))) = true then (Option.bind (g y1 (e : Int)) fun r2 => if y2.length + ([r2]).length ≤ AP then (some (.next (w64 (y1 + r2), (y2 ++ ([r2]))))) else none) else some (.brk (y1, y2))) :
  ∀ (ks : List Nat) (a : Nat) (acc : List Int) (fuel : Nat), Seg a e ks → acc.length ≤ a → ks.length < fuel → Q5 f fuel ((a : Int), acc) = some ((e : Int), acc ++ ks.map p2) := by
 intro ks
 induction ks with
 | nil =>
  intro a acc fuel h ha hfu
  obtain ⟨fuel, rfl⟩ : ∃ m, fuel = m + 1 := ⟨fuel - 1, by omega⟩
  have h : a = e := h
  subst h
  rw [Xj (by rw [hf, QV (by simp)])]; simp
 | cons k ks ih =>
  intro a acc fuel h ha hfu
  obtain ⟨fuel, rfl⟩ : ∃ m, fuel = m + 1 := ⟨fuel - 1, by omega⟩
  simp only [List.length_cons] at hfu
  have hk := h.2.1.1
  have hlt := h.1
  have hp := ZD k
  rw [YK (s' := (((a + 2 ^ k : Nat) : Int), acc ++ [p2 k])) (by
   rw [hf, QQ (by rw [decide_eq_true_eq]; omega), Qc (hg a k hlt h.2.1), QQ (QcR (by simp; omega))]
   refine congrArg some (congrArg LR.next (Prod.ext ?_ rfl))
   show w64 ((a : Int) + p2 k) = _
   unfold p2
   rw [Jm (by omega) (by omega)]; omega), ih (a + 2 ^ k) (acc ++ [p2 k]) fuel h.2.2 (by simp; omega) (by omega)]
  simp
theorem QbB (a e : Nat) (h : a ≤ e) (he : e ≤ 2147483647) : ZG (a : Int) (e : Int) = some ((Wh a e).map p2) := by
 unfold ZG
 rw [Qc (QiB _ _), QV (by simp; omega)]
 have hs := Ug h
 have h1 := Qhe (f := fun (s : Int × (List Int)) => XK (e : Int) s.1 s.2) (g := Xh) (fun a k hl hk => Qgi a e k hl he hk) he (fun y1 y2 => rfl) (Wh a e) a [] FU hs (by simp) (J7 (by have := QdR _ _ _ hs; omega))
 rw [Qc h1]; simp
theorem Qey (a e : Nat) (h : a ≤ e) (he : e ≤ 2147483647) : YI (a : Int) (e : Int) = some ((Wh a e).map p2) := by
 unfold YI
 rw [Qc (Qkg _ _), QV (by simp; omega)]
 have hs := Ug h
 have h1 := Qhe (f := fun (s : Int × (List Int)) => YU (e : Int) s.1 s.2) (g := Y3) (fun a k hl hk => QlB a e k hl he hk) he (fun y1 y2 => rfl) (Wh a e) a [] FU hs (by simp) (J7 (by have := QdR _ _ _ hs; omega))
 rw [Qc h1]; simp
theorem Qkq (n : Nat) (h : n ≤ 4294967296) : JX (n : Int) = some [] := by
 unfold JX
 rw [QV (by rw [decide_eq_true_eq]; omega), show w64 ((0 : Int) - 0) = 0 from rfl, Jm (n := (n : Int) - 0) (by omega) (by omega), Option.bind_some]
 by_cases h0 : 0 < n
 ·rw [QQ (by rw [decide_eq_true_eq]; omega), QQ ⟨by omega, by omega⟩, QQ ⟨by omega, by omega⟩]; simp
 ·rw [QV (by rw [decide_eq_true_eq]; omega)]
theorem Qh1 (L : List (List (BitVec 8))) (h : L.flatten.length ≤ 4000000000) (hL : L.length ≤ 1000) : JR L = some L.flatten := by
 unfold JR
 have hpre : ∀ i, i ≤ L.length → (L.take i).flatten.length ≤ 4000000000 := fun i hi => by
  have : L.flatten.length = (L.take i).flatten.length + (L.drop i).flatten.length := by
   rw [← List.length_append, ← List.flatten_append, List.take_append_drop]
  omega
 have hsucc : ∀ i (hi : i < L.length), (L.take (i + 1)).flatten = (L.take i).flatten ++ L[i] := fun i hi => by
  rw [List.take_succ_eq_append_getElem hi, List.flatten_append]; simp
 have h1 := JB (f := fun (s : Int × Int) => Jj L s.1 s.2) (fun i (_ : Unit) => ((((L.take i).flatten.length : Nat) : Int), (i : Int))) (fun _ s => s) 0 L.length (fun i s _ hi => by
  simp only [Jj]
  have h2 := hpre (i + 1) hi
  have h3 : (L.take (i + 1)).flatten.length = (L.take i).flatten.length + L[i].length := by rw [hsucc i hi, List.length_append]
  rw [QQ (by rw [decide_eq_true_eq]; omega), Qc (Ju rfl hi), Jm (n := (((L.take i).flatten.length : Nat) : Int) + (L[i].length : Int)) (by omega) (by omega), QV (by rw [decide_eq_true_eq]; omega), Jm (n := (i : Int) + 1) (by omega) (by omega), h3]
  rfl) (fun s => by
  simp only [Jj]
  rw [QV (by rw [decide_eq_true_eq]; omega)]) FU () (by omega) (J7 (by omega))
 have h1' : Q5 (fun (s : Int × Int) => Jj L s.1 s.2) FU ((0 : Int), (0 : Int)) = some ((((L.take L.length).flatten.length : Nat) : Int), (L.length : Int)) := h1
 rw [Qc h1', Qc (Qkq _ (by have := hpre L.length (Nat.le_refl _); omega))]
 have h4 := JB (f := fun (s : Int × (List (BitVec 8))) => Ji L s.1 s.2) (fun i (_ : Unit) => ((i : Int), (L.take i).flatten)) (fun _ s => s) 0 L.length (fun i s _ hi => by
  simp only [Ji]
  have h2 := hpre (i + 1) hi
  have h3 : (L.take (i + 1)).flatten.length = (L.take i).flatten.length + L[i].length := by rw [hsucc i hi, List.length_append]
  rw [QQ (by rw [decide_eq_true_eq]; omega), Qc (Ju rfl hi), QQ (QcR (by omega)), Jm (n := (i : Int) + 1) (by omega) (by omega), hsucc i hi]
  rfl) (fun s => by
  simp only [Ji]
  rw [QV (by rw [decide_eq_true_eq]; omega)]) FU () (by omega) (J7 (by omega))
 have h4' : Q5 (fun (s : Int × (List (BitVec 8))) => Ji L s.1 s.2) FU ((0 : Int), ([] : List (BitVec 8))) = some ((L.length : Int), (L.take L.length).flatten) := h4
 rw [Qc h4', List.take_length]
def txt (a b : Qa) : List (BitVec 8) := 1#8 :: (a.toList ++ b.toList)
def nd (a b : Qa) : Qa := sha (txt a b)
theorem QgH (a b : Qa) : (txt a b).length = 65 := by simp [txt]
theorem QgS (a b : Qa) : Vz a b = some (nd a b) := by
 unfold Vz
 rw [Qc (Qh1 _ (by simp) (by simp))]
 have : [[1#8], a.toList, b.toList].flatten = txt a b := by simp [txt]
 rw [this, Qc (Qcs _ (by rw [QgH]; omega))]; rfl
theorem Qlk (a b : Qa) : XG a b = some (txt a b) := by
 unfold XG
 rw [QQ (QcR (by simp)), QQ (QcR (by simp))]
 simp [txt]
theorem QiX (a b : Qa) : XB a b = some (nd a b) := by
 unfold XB
 rw [Qc (Qlk a b), Qc (Qd5 _ (by rw [QgH]; omega))]; rfl
def mp (x : P Qa) : Qz := ((x.1 : Int), p2 x.2.1, x.2.2)
def rv (st : List (P Qa)) : List Qz := st.reverse.map mp
theorem Qge {j k : Nat} : p2 j = p2 k ↔ j = k := by
 constructor
 ·intro h
  rcases Nat.lt_trichotomy j k with hl | hl | hl
  ·have : 2 ^ j < 2 ^ k := Nat.pow_lt_pow_right (by omega) hl
   unfold p2 at h; omega
  ·exact hl
  ·have : 2 ^ k < 2 ^ j := Nat.pow_lt_pow_right (by omega) hl
   unfold p2 at h; omega
 ·intro h; rw [h]
theorem Qa6 {a : Nat} {H : Type} : ∀ (st : List (P H)) (e : Nat), Ct a st e → a + st.length ≤ e
 | [], e, h => by have h : a = e := h; simp; omega
 | x :: st, e, h => by
  have := Qa6 st _ h.2.2
  have h1 := h.1
  have := ZD x.2.1
  simp only [List.length_cons]; omega
theorem Qel (y : P Qa) (st : List (P Qa)) : rv (y :: st) = rv st ++ [mp y] := by simp [rv]
theorem QaT (st : List (P Qa)) : (rv st).length = st.length := by simp [rv]
theorem Qln {a : Nat} (st : List (P Qa)) (x : P Qa) (hc : Ct a st x.1) (hx : x.1 + 2 ^ x.2.1 ≤ 2147483647) : Xp (rv st) (mp x) = some (rv (push nd st x)) := by
 unfold Xp
 have key : ∀ (st : List (P Qa)) (x : P Qa) (fuel : Nat), Ct a st x.1 → x.1 + 2 ^ x.2.1 ≤ 2147483647 → st.length < fuel →
   ∃ x' st', Q5 (fun (s : Qz × (List Qz)) => J1 s.1 s.2) fuel (mp x, rv st) = some (mp x', rv st') ∧ push nd st x = x' :: st' ∧ st'.length ≤ st.length := by
  intro st
  induction st with
  | nil =>
   intro x fuel hc hx hf
   obtain ⟨fuel, rfl⟩ : ∃ m, fuel = m + 1 := ⟨fuel - 1, by omega⟩
   exact ⟨x, [], by rw [Xj (s' := (mp x, rv [])) (by simp [J1, rv])], rfl, Nat.le_refl _⟩
  | cons y st ih =>
   intro x fuel hc hx hf
   obtain ⟨fuel, rfl⟩ : ∃ m, fuel = m + 1 := ⟨fuel - 1, by omega⟩
   simp only [List.length_cons] at hf
   have hlen := Qa6 _ _ hc
   simp only [List.length_cons] at hlen
   have hp := ZD x.2.1
   have hl1 : (rv (y :: st)).length = st.length + 1 := by rw [QaT]; rfl
   have e1 : w64 (((rv (y :: st)).length : Int) - 1) = (st.length : Int) := by rw [hl1, Jm (by omega) (by omega)]; omega
   have hg : ZC (rv (y :: st)) (w64 (((rv (y :: st)).length : Int) - 1)) = some (mp y) := by
    rw [Ju e1 (by omega)]
    refine congrArg some ?_
    simp only [Qel]
    rw [List.getElem_append_right (by rw [QaT]; exact Nat.le_refl _)]
    simp [QaT]
   have hyx : y.1 + 2 ^ y.2.1 = x.1 := hc.1
   have hps := XC y.2.1
   have hpy := ZD y.2.1
   by_cases hm : y.2.1 = x.2.1 ∧ 2 ^ (y.2.1 + 1) ∣ y.1
   ·have hk : 2 ^ y.2.1 = 2 ^ x.2.1 := by rw [hm.1]
    have e2 : w64 ((2 : Int) * (mp y).2.1) = ((2 ^ (y.2.1 + 1) : Nat) : Int) := by
     show w64 (2 * p2 y.2.1) = _
     unfold p2; rw [Jm (by omega) (by omega)]; omega
    have hn : J1 (mp x) (rv (y :: st)) = some (.next (mp (y.1, y.2.1 + 1, nd y.2.2 x.2.2), rv st)) := by
     unfold J1
     rw [QQ (by rw [decide_eq_true_eq, hl1]; omega), Qc hg, e2]
     rw [QV (by simp only [Bool.not_eq_true', decide_eq_false_iff_not, Decidable.not_not]; exact Qge.2 hm.1), QQ (by omega), Option.bind_some,
      QV (by simp only [Bool.not_eq_true', decide_eq_false_iff_not, Decidable.not_not]; exact (QaP y.1 _).2 hm.2), Qc (QgS _ _), Option.bind_some, e1, QQ ⟨by omega, by rw [hl1]; omega⟩]
     refine congrArg some (congrArg LR.next (Prod.ext ?_ ?_))
     ·rfl
     ·show List.take (st.length : Int).toNat (rv (y :: st)) = rv st
      rw [Qel, Int.toNat_natCast, List.take_left' (by rw [QaT])]
    have hpu : push nd (y :: st) x = push nd st (y.1, y.2.1 + 1, nd y.2.2 x.2.2) := by
     conv => lhs; unfold push
     rw [if_pos hm]
    obtain ⟨x', st', h1, h2, h3⟩ := ih (y.1, y.2.1 + 1, nd y.2.2 x.2.2) fuel hc.2.2 (by show y.1 + 2 ^ (y.2.1 + 1) ≤ _; omega) (by omega)
    exact ⟨x', st', by rw [YK hn]; exact h1, by rw [hpu]; exact h2, by simp only [List.length_cons]; omega⟩
   ·have hn : J1 (mp x) (rv (y :: st)) = some (.brk (mp x, rv (y :: st))) := by
     unfold J1
     rw [QQ (by rw [decide_eq_true_eq, hl1]; omega), Qc hg]
     have e2 : w64 ((2 : Int) * (mp y).2.1) = ((2 ^ (y.2.1 + 1) : Nat) : Int) := by
      show w64 (2 * p2 y.2.1) = _
      unfold p2; rw [Jm (by omega) (by omega)]; omega
     rw [e2]
     by_cases hk : y.2.1 = x.2.1
     ·rw [QV (by simp only [Bool.not_eq_true', decide_eq_false_iff_not, Decidable.not_not]; exact Qge.2 hk), QQ (by omega), Option.bind_some, QQ (by
       simp only [Bool.not_eq_true', decide_eq_false_iff_not]; exact fun h => hm ⟨hk, (QaP y.1 _).1 h⟩)]
     ·rw [QQ (by simp only [Bool.not_eq_true', decide_eq_false_iff_not]; exact fun h => hk (Qge.1 h)), Option.bind_some, QQ rfl]
    exact ⟨x, y :: st, by rw [Xj hn], by conv => lhs; unfold push; rw [if_neg hm], Nat.le_refl _⟩
 have hlen := Qa6 _ _ hc
 have hpx := ZD x.2.1
 obtain ⟨x', st', h1, h2, h3⟩ := key st x FU hc hx (J7 (by omega))
 rw [Qc h1, QQ (QcR (by simp [QaT]; omega)), h2, Qel]
theorem Qif (l : List Qz) (hl : l.length ≤ 4000000000) : Z7 l = some (l.map (·.2.2)) := by
 unfold Z7
 have h1 := QeA (f := fun (s : Int × (List Qa)) => Zv l s.1 s.2) l (·.2.2) (by omega) (fun i hi acc ha => by
  simp only [Zv]
  rw [QQ (by rw [decide_eq_true_eq]; omega), Qc (Ju rfl hi), QQ (QcR (by simp; omega)), Jm (n := (i : Int) + 1) (by omega) (by omega)]) (fun acc => by
  simp only [Zv]
  rw [QV (by rw [decide_eq_true_eq]; omega)])
 rw [Qc h1]
def hof (st : List (P Qa)) : List Qa := st.reverse.map (·.2.2)
theorem QhN (st : List (P Qa)) (h : st.length ≤ 4000000000) : Z7 (rv st) = some (hof st) := by
 rw [Qif _ (by rw [QaT]; exact h)]
 simp [rv, hof, mp, Function.comp_def]
def q8 {H : Type} : Nat → List H → List (P H)
 | _, [] => []
 | a, h :: l => (a, 0, h) :: q8 (a + 1) l
theorem Qa4 {H : Type} : ∀ (l : List H) (a : Nat), Fw a (q8 a l) (a + l.length)
 | [], a => rfl
 | h :: l, a => ⟨rfl, by simp, by
   have := Qa4 l (a + 1)
   show Fw (a + 2 ^ 0) (q8 (a + 1) l) _
   rw [List.length_cons, show a + (l.length + 1) = a + 1 + l.length by omega]; exact this⟩
end Go.Sl.Pu
set_option maxRecDepth 20000
namespace Go.Sl.Fr
variable {H : Type}
def vl (V : Nat → Nat → H) : Nat → List Nat → List H
 | _, [] => []
 | a, k :: ks => V a k :: vl V (a + 2 ^ k) ks
theorem Qhc {V : Nat → Nat → H} : ∀ (L : List (P H)) (a e : Nat), Fw a L e → Hs V L → L.map (fun x => x.2.2) = vl V a (L.map (fun x => x.2.1))
 | [], a, e, h, hs => rfl
 | x :: L, a, e, h, hs => by
  have h1 := Qhc L _ e h.2.2 (fun z hz => hs z (List.mem_cons_of_mem _ hz))
  have h2 := hs x (List.mem_cons_self ..)
  have h3 := h.1
  show x.2.2 :: _ = V a x.2.1 :: _
  rw [h1, h2, h3]
theorem QgE {V : Nat → Nat → H} {a e : Nat} {L L' : List (P H)} (h1 : Fw a L e) (h2 : NfF L) (h3 : Hs V L) (h1' : Fw a L' e) (h2' : NfF L') (h3' : Hs V L') : L = L' := by
 have hk := Qcu _ _ _ _ (U2 L a e h1 h2) (U2 L' a e h1' h2')
 have e1 := QdT L a e h1
 have e2 := QdT L' a e h1'
 rw [Qhc L a e h1 h3, hk] at e1
 rw [Qhc L' a e h1' h3'] at e2
 exact e1.symm.trans e2
theorem QiF {V : Nat → Nat → H} {st : List (P H)} (h : Hs V st) : Hs V st.reverse := fun x hx => h x (List.mem_reverse.1 hx)
def qF (n : H → H → H) (z : H) : List H → H
 | [] => z
 | [x] => x
 | x :: y :: l => n x (qF n z (y :: l))
end Go.Sl.Fr
namespace Go.Sl.Pu
open Go.Sl Go.Sl.M Go.Sl.Fr
attribute [local irreducible] sha nd
def QcJ (n : Nat) : Nat := 2 ^ Nat.log2 (n - 1)
theorem QgN {n : Nat} (h : 2 ≤ n) : QcJ n < n := by
 have := Nat.log2_self_le (n := n - 1) (by omega)
 unfold QcJ; omega
theorem Qi3 (n : Nat) : 0 < QcJ n := ZD _
theorem Qj4 {n k : Nat} (h1 : 2 ^ k < n) (h2 : n ≤ 2 ^ (k + 1)) : QcJ n = 2 ^ k := by
 unfold QcJ
 have hp := ZD k
 have : Nat.log2 (n - 1) = k := (Nat.log2_eq_iff (by omega)).2 ⟨by omega, by omega⟩
 rw [this]
theorem QdA {n : Nat} (h : 2 ≤ n) : ∃ k, QcJ n = 2 ^ k ∧ 2 ^ k < n ∧ n ≤ 2 ^ (k + 1) := by
 refine ⟨Nat.log2 (n - 1), rfl, QgN h, ?_⟩
 have := Nat.lt_log2_self (n := n - 1)
 omega
def mth (l : List Qa) : Qa :=
 if h : 2 ≤ l.length then nd (mth (l.take (QcJ l.length))) (mth (l.drop (QcJ l.length)))
 else match l with
  | [] => sha []
  | x :: _ => x
termination_by l.length
decreasing_by
 ·have := QgN h; simp; omega
 ·have := Qi3 l.length; simp; omega
theorem Qhf : mth [] = sha [] := by rw [mth]; simp
theorem Qhh (x : Qa) : mth [x] = x := by rw [mth]; simp
theorem QdQ {l : List Qa} {k : Nat} (h1 : 2 ^ k < l.length) (h2 : l.length ≤ 2 ^ (k + 1)) : mth l = nd (mth (l.take (2 ^ k))) (mth (l.drop (2 ^ k))) := by
 have hp := ZD k
 conv => lhs; rw [mth]
 rw [dif_pos (by omega), Qj4 h1 h2]
theorem QiL {f : Int → Option (LR Int Empty)} (n : Nat) (hn : n ≤ 4000000000) (h2 : 2 ≤ n) (hf : ∀ y1, f y1 = if (decide (y1 < (w64 ((n : Int) - y1)))) = true then some (.next (w64 ((2 : Int) * y1))) else some (.brk y1)) :
  Q5 f FU (1 : Int) = some ((QcJ n : Nat) : Int) := by
 obtain ⟨k, hk, hlt, hle⟩ := QdA h2
 have key : ∀ (d j : Nat), j + d = k → ∀ fuel, d < fuel → Q5 f fuel (p2 j) = some (p2 k) := by
  intro d
  induction d with
  | zero =>
   intro j hj fuel hfu
   obtain ⟨fuel, rfl⟩ : ∃ m, fuel = m + 1 := ⟨fuel - 1, by omega⟩
   have : j = k := by omega
   subst this
   have hps := XC j
   have hpj := ZD j
   apply Xj
   rw [hf, QV]
   rw [decide_eq_true_eq]; unfold p2; rw [Jm (by omega) (by omega)]; omega
  | succ d ih =>
   intro j hj fuel hfu
   obtain ⟨fuel, rfl⟩ : ∃ m, fuel = m + 1 := ⟨fuel - 1, by omega⟩
   have hps := XC j
   have hpj := ZD j
   have hjk : 2 ^ (j + 1) ≤ 2 ^ k := Nat.pow_le_pow_right (by omega) (by omega)
   rw [YK (s' := p2 (j + 1)) (by
    rw [hf, QQ (by rw [decide_eq_true_eq]; unfold p2; rw [Jm (by omega) (by omega)]; omega)]
    refine congrArg some (congrArg LR.next ?_)
    unfold p2; rw [Jm (by omega) (by omega)]; omega)]
   exact ih (j + 1) (by omega) fuel (by omega)
 have hk64 : k < 2 ^ k := Nat.lt_pow_self (by omega)
 have := key k 0 (by omega) FU (J7 (by omega))
 rw [hk]; exact this
theorem Qh7 : ∀ (n : Nat) (l : List Qa), l.length < n → l.length ≤ 4000000000 → Y8 n l = some (mth l) := by
 intro n
 induction n with
 | zero => intro l h; omega
 | succ n ih =>
  intro l h hl
  show Xc (Y8 n) l = _
  unfold Xc
  match l, h, hl with
  | [], h, hl => rw [QQ (by rfl), Qc (Qd5 [] (by simp)), Qhf]
  | [x], h, hl => rw [QV (by simp), QQ (by rfl), Qc (Ju (i := (0 : Int)) (k := 0) rfl (by simp)), Qhh]; rfl
  | x :: y :: l, h, hl =>
   generalize hL : x :: y :: l = L at h hl
   have h2 : 2 ≤ L.length := by rw [← hL]; simp
   have h1 := QiL (f := fun (s : Int) => XH L s) L.length hl h2 (fun y1 => rfl)
   obtain ⟨k, hk, hlt, hle⟩ := QdA h2
   have hp := ZD k
   rw [QV (by rw [decide_eq_true_eq]; omega), QV (by rw [decide_eq_true_eq]; omega), Qc h1, hk,
    Qc (Z9 (lo := (0 : Int)) (a := 0) (b := 2 ^ k) rfl rfl (by omega) (by omega)), List.drop_zero, Qc (ih _ (by simp; omega) (by simp; omega)),
    Qc (Z9 (a := 2 ^ k) (b := L.length) rfl rfl (by omega) (by omega)), List.take_length, Qc (ih _ (by simp; omega) (by simp; omega)),
    Qc (QiX _ _), QdQ hlt hle]
theorem Qfb (l : List Qa) (hl : l.length ≤ 4000000000) : VK l = some (mth l) := Qh7 FU l (J7 (by omega)) hl
def vt (a : Nat) (l : List Qa) (p k : Nat) : Qa := mth ((l.drop (p - a)).take (2 ^ k))
theorem Qg3 {a : Nat} {l : List Qa} {p k : Nat} (h1 : a ≤ p) (h2 : p + 2 ^ (k + 1) ≤ a + l.length) : vt a l p (k + 1) = nd (vt a l p k) (vt a l (p + 2 ^ k) k) := by
 unfold vt
 have hps := XC k
 have hp := ZD k
 have hl : ((l.drop (p - a)).take (2 ^ (k + 1))).length = 2 ^ (k + 1) := by rw [List.length_take, List.length_drop]; omega
 rw [QdQ (k := k) (by rw [hl]; omega) (by rw [hl]; exact Nat.le_refl _), List.take_take, Nat.min_eq_left (by omega), List.drop_take, List.drop_drop, show 2 ^ (k + 1) - 2 ^ k = 2 ^ k by omega, show p - a + 2 ^ k = p + 2 ^ k - a by omega]
theorem QjZ {a : Nat} {l : List Qa} {i : Nat} (hi : i < l.length) : vt a l (a + i) 0 = l[i] := by
 unfold vt
 rw [Nat.add_sub_cancel_left, List.drop_eq_getElem_cons hi]
 exact Qhh _
theorem Qib (a : Nat) (l : List Qa) : Hs (vt a l) (q8 a l) := by
 have : ∀ (m : List Qa) (i : Nat), l.drop i = m → Hs (vt a l) (q8 (a + i) m) := by
  intro m
  induction m with
  | nil => intro i h x hx; cases hx
  | cons y m ih =>
   intro i h x hx
   have hi : i < l.length := by
    apply Decidable.byContradiction
    intro hc
    rw [List.drop_eq_nil_of_le (by omega)] at h; cases h
   rw [List.drop_eq_getElem_cons hi] at h
   injection h with h1 h2
   rcases List.mem_cons.1 hx with rfl | hx
   ·rw [← h1]; exact (QjZ hi).symm
   ·exact ih (i + 1) h2 x hx
 exact this l 0 rfl
def cst (a : Nat) (l : List Qa) : List (P Qa) := K3 nd [] (q8 a l)
theorem Qew (a : Nat) (l : List Qa) : Ct a (cst a l) (a + l.length) := qi nd _ [] a _ rfl (Qa4 l a)
theorem Qf7 (a : Nat) (l : List Qa) : Nf (cst a l) := Qd1 nd _ [] trivial
theorem Qi2 (a : Nat) (l : List Qa) : Hs (vt a l) (cst a l) :=
 Qeh (nd := nd) (V := vt a l) (a := a) (E := a + l.length) (fun p k h1 h2 _ => Qg3 h1 h2) (q8 a l) [] a _ rfl (Qa4 l a) (Nat.le_refl _) (fun _ h => by cases h) (Qib a l)
def hsh (a : Nat) (l : List Qa) : List Qa := hof (cst a l)
theorem Qes (a : Nat) (l : List Qa) : Fw a (cst a l).reverse (a + l.length) ∧ NfF (cst a l).reverse ∧ Hs (vt a l) (cst a l).reverse := ⟨Qjk _ _ _ (Qew a l), Qea _ (Qf7 a l), QiF (Qi2 a l)⟩
theorem Qcb (a : Nat) (l : List Qa) : (cst a l).reverse.map (fun x => x.2.1) = Wh a (a + l.length) := (QhH (by omega) (U2 _ _ _ (Qes a l).1 (Qes a l).2.1)).symm
theorem Qk4 (a : Nat) (l : List Qa) : hsh a l = vl (vt a l) a (Wh a (a + l.length)) := by
 rw [← Qcb]; exact Qhc _ _ _ (Qes a l).1 (Qes a l).2.2
theorem Qjy (a : Nat) (l : List Qa) : (hsh a l).length = (Wh a (a + l.length)).length := by
 rw [← Qcb]; simp [hsh, hof]
theorem Qjt (a : Nat) (l : List Qa) : lay a (Wh a (a + l.length)) (hsh a l) = (cst a l).reverse := by
 rw [← Qcb]; exact QdT _ _ _ (Qes a l).1
theorem Qiz (a : Nat) (l : List Qa) : (hsh a l).length ≤ l.length := by
 have := Qa6 _ _ (Qew a l)
 have : (hsh a l).length = (cst a l).length := by simp [hsh, hof]
 omega
noncomputable def Kc (r : Qu) : Bool := decide (0 ≤ r.1 ∧ r.1 ≤ r.2.1 ∧ r.2.1 ≤ 2147483647 ∧ (Wh r.1.toNat r.2.1.toNat).length = r.2.2.length)
theorem Qab {r : Qu} : Kc r = true ↔ ∃ a e : Nat, r.1 = (a : Int) ∧ r.2.1 = (e : Int) ∧ a ≤ e ∧ e ≤ 2147483647 ∧ (Wh a e).length = r.2.2.length := by
 unfold Kc
 rw [decide_eq_true_eq]
 constructor
 ·rintro ⟨h1, h2, h3, h4⟩
  exact ⟨r.1.toNat, r.2.1.toNat, by omega, by omega, by omega, by omega, h4⟩
 ·rintro ⟨a, e, h1, h2, h3, h4, h5⟩
  rw [h1, h2]
  exact ⟨by omega, by omega, by omega, by simpa using h5⟩
theorem Qbf (r : Qu) : Y4 r = some (Kc r) := by
 unfold Y4
 rw [Qc (QiB _ _)]
 by_cases h : 0 ≤ r.1 ∧ r.1 ≤ r.2.1 ∧ r.2.1 ≤ 2147483647
 ·have h1 := QbB r.1.toNat r.2.1.toNat (by omega) (by omega)
  rw [show ((r.1.toNat : Nat) : Int) = r.1 by omega, show ((r.2.1.toNat : Nat) : Int) = r.2.1 by omega] at h1
  rw [QQ (decide_eq_true h), Qc h1, Option.bind_some]
  refine congrArg some ?_
  unfold Kc
  rw [List.length_map]
  by_cases hs : (Wh r.1.toNat r.2.1.toNat).length = r.2.2.length
  ·rw [decide_eq_true (by omega), decide_eq_true ⟨h.1, h.2.1, h.2.2, hs⟩]
  ·rw [decide_eq_false (by omega), decide_eq_false (fun hh => hs hh.2.2.2)]
 ·rw [decide_eq_false h, QV (by decide), Option.bind_some]
  unfold Kc
  rw [decide_eq_false (fun hh => h ⟨hh.1, hh.2.1, hh.2.2.1⟩)]
theorem Qbl (a : Nat) (l : List Qa) (h : a + l.length ≤ 2147483647) : Kc ((a : Int), ((a + l.length : Nat) : Int), hsh a l) = true :=
 Qab.2 ⟨a, a + l.length, rfl, rfl, by omega, h, (Qjy a l).symm⟩
def QcP : Qa := Vector.replicate 32 (0#8)
noncomputable def Kw (r : Qu) : Qa × Int :=
 if Kc r = true ∧ r.1 = 0 then (if r.2.2 = [] then (sha [], 0) else (qF nd QcP r.2.2, 0)) else (QcP, 1)
theorem QbG (z : Qa) : ∀ (l : List Qa) (x y : Qa), qF nd z (l ++ [x, y]) = qF nd z (l ++ [nd x y])
 | [], x, y => rfl
 | [w], x, y => rfl
 | w :: v :: l, x, y => by
  show nd w (qF nd z (v :: l ++ [x, y])) = nd w (qF nd z (v :: l ++ [nd x y]))
  rw [QbG z (v :: l) x y]
theorem Qg7 (r : Qu) (hr : r.2.2.length ≤ 4000000000) : Ke r = some (Kw r) := by
 unfold Ke Kw
 rw [Qc (Qbf r)]
 by_cases hf : Kc r = true
 ·rw [hf, QV (by decide), Option.bind_some]
  by_cases h0 : r.1 = 0
  ·rw [QV (by simp [h0]), if_pos (show true = true ∧ r.1 = 0 from ⟨rfl, h0⟩)]
   by_cases hn : r.2.2 = []
   ·rw [QQ (by simp [hn]), Qc (Qcs [] (by simp)), if_pos hn]
   ·have hlen : 0 < r.2.2.length := List.length_pos_iff.2 hn
    rw [QV (by rw [decide_eq_true_eq]; omega), if_neg hn]
    have key : ∀ (i fuel : Nat) (y : Qa), i ≤ r.2.2.length → i < fuel → Q5 (fun (s : Int × Qa) => Xk r s.1 s.2) fuel ((i : Int) - 1, y) = some (-1, qF nd QcP (r.2.2.take i ++ [y])) := by
     intro i
     induction i with
     | zero =>
      intro fuel y hi hfu
      obtain ⟨fuel, rfl⟩ : ∃ m, fuel = m + 1 := ⟨fuel - 1, by omega⟩
      exact Xj (s' := ((-1 : Int), y)) (by simp [Xk])
     | succ i ih =>
      intro fuel y hi hfu
      obtain ⟨fuel, rfl⟩ : ∃ m, fuel = m + 1 := ⟨fuel - 1, by omega⟩
      rw [YK (s' := ((i : Int) - 1, nd r.2.2[i] y)) (by
       simp only [Xk]
       rw [QQ (by rw [decide_eq_true_eq]; omega), Qc (Ju (k := i) (by omega) (by omega)), Qc (QgS _ _), Jm (by omega) (by omega)]
       refine congrArg some (congrArg LR.next (Prod.ext ?_ rfl))
       show ((i + 1 : Nat) : Int) - 1 - 1 = _
       omega), ih fuel _ (by omega) (by omega), List.take_succ_eq_append_getElem (by omega), List.append_assoc]
      exact congrArg some (congrArg (fun v => ((-1 : Int), v)) (QbG QcP (r.2.2.take i) r.2.2[i] y).symm)
    have h1 := key (r.2.2.length - 1) FU (r.2.2[r.2.2.length - 1]) (by omega) (J7 (by omega))
    rw [Qc (Ju (k := r.2.2.length - 1) (by rw [Jm (by omega) (by omega)]; omega) (by omega)), Jm (n := (r.2.2.length : Int) - 2) (by omega) (by omega), show (r.2.2.length : Int) - 2 = ((r.2.2.length - 1 : Nat) : Int) - 1 by omega, Qc h1]
    refine congrArg some (congrArg (fun v => (v, (0 : Int))) ?_)
    show qF nd QcP (r.2.2.take (r.2.2.length - 1) ++ [r.2.2[r.2.2.length - 1]]) = _
    rw [← List.take_succ_eq_append_getElem (by omega), List.take_of_length_le (by omega)]
  ·rw [QQ (by simp [h0]), if_neg (show ¬ (true = true ∧ r.1 = 0) from fun h => h0 h.2)]; rfl
 ·rw [Bool.not_eq_true] at hf
  rw [hf, QQ (by rfl), Option.bind_some, QQ rfl, if_neg (show ¬ (false = true ∧ r.1 = 0) from fun h => by cases h.1)]; rfl
theorem QeI {b : Nat} {l : List Qa} : ∀ (L : List (P Qa)) (a e : Nat), L ≠ [] → Fw a L e → NfF L → Hs (vt b l) L → b ≤ a → e ≤ b + l.length → (∀ i, 2 ^ i ≤ e - a → 2 ^ i ∣ a) →
  qF nd QcP (L.map (fun x => x.2.2)) = mth ((l.drop (a - b)).take (e - a))
 | [], a, e, hne, _, _, _, _, _, _ => absurd rfl hne
 | [x], a, e, _, hf, hn, hs, hb, he, hal => by
  have h1 := hs x (List.mem_cons_self ..)
  have h2 : x.1 = a := hf.1
  have h3 : x.1 + 2 ^ x.2.1 = e := hf.2.2
  have hpx := ZD x.2.1
  show x.2.2 = _
  rw [h1]; unfold vt
  rw [h2, show e - a = 2 ^ x.2.1 by omega]
 | x :: y :: L, a, e, _, hf, hn, hs, hb, he, hal => by
  have h1 := hs x (List.mem_cons_self ..)
  have h2 : x.1 = a := hf.1
  have hsz := (U2 _ _ _ hf hn).2.1
  have hsz' : qy a (e - a) x.2.1 := hsz
  have hlt : a + 2 ^ x.2.1 < e := by
   have h := (U2 _ _ _ hf hn).2.2
   have h' : Seg (a + 2 ^ x.2.1) e (y.2.1 :: L.map (fun x => x.2.1)) := h
   exact h'.1
  have hub : e - a < 2 ^ (x.2.1 + 1) := by
   apply Decidable.byContradiction
   intro hc
   exact hsz'.2.2 ⟨by omega, hal _ (by omega)⟩
  have hps := XC x.2.1
  have hf' : Fw (a + 2 ^ x.2.1) (y :: L) e := by have := hf.2.2; rw [h2] at this; exact this
  have ih := QeI (y :: L) (a + 2 ^ x.2.1) e (by simp) hf' hn.2 (fun z hz => hs z (List.mem_cons_of_mem _ hz)) (by omega) he (fun i hi => by
   have h1 : 2 ^ i < 2 ^ x.2.1 := by omega
   have h2 : i < x.2.1 := (Nat.pow_lt_pow_iff_right (a := 2) (by omega)).1 h1
   exact Nat.dvd_add (hal i (by omega)) (UW (by omega)))
  have hl : ((l.drop (a - b)).take (e - a)).length = e - a := by rw [List.length_take, List.length_drop]; omega
  rw [QdQ (k := x.2.1) (by rw [hl]; omega) (by rw [hl]; omega)]
  show nd x.2.2 (qF nd QcP ((y :: L).map (fun x => x.2.2))) = _
  rw [ih, h1, List.take_take, Nat.min_eq_left (by omega), List.drop_take, List.drop_drop, show a - b + 2 ^ x.2.1 = a + 2 ^ x.2.1 - b by omega, show e - a - 2 ^ x.2.1 = e - (a + 2 ^ x.2.1) by omega]
  unfold vt; rw [h2]
theorem QjO (l : List Qa) (h : l.length ≤ 2147483647) : Kw ((0 : Int), ((l.length : Nat) : Int), hsh 0 l) = (mth l, 0) := by
 unfold Kw
 have hf := Qbl 0 l (by omega)
 rw [Nat.zero_add] at hf
 rw [if_pos ⟨hf, rfl⟩]
 by_cases hn : l = []
 ·subst hn
  rw [if_pos (by rfl), Qhf]
 ·have hlen : 0 < l.length := List.length_pos_iff.2 hn
  have hr := Qes 0 l
  rw [Nat.zero_add] at hr
  have hne : (cst 0 l).reverse ≠ [] := by
   intro hc
   rw [hc] at hr
   have h0 : 0 = l.length := hr.1
   omega
  rw [if_neg (by simpa [hsh, hof] using hne)]
  have := QeI (cst 0 l).reverse 0 l.length hne hr.1 hr.2.1 hr.2.2 (Nat.le_refl _) (by omega) (fun i _ => Nat.dvd_zero _)
  rw [Nat.sub_zero, Nat.sub_zero, List.drop_zero, List.take_length] at this
  exact congrArg (fun v => (v, (0 : Int))) this
end Go.Sl.Pu
set_option maxRecDepth 20000
namespace Go.Sl.Fr
variable {H : Type}
def Hp (Q : Nat → Nat → H → Prop) (L : List (P H)) : Prop := ∀ x ∈ L, Q x.1 x.2.1 x.2.2
end Go.Sl.Fr
set_option maxRecDepth 20000
namespace Go.Sl.Pu
open Go.Sl Go.Sl.M Go.Sl.Fr
attribute [local irreducible] sha nd w64 p2
def sz (L : List (P Qa)) : List Int := L.map fun x => p2 x.2.1
def hh (L : List (P Qa)) : List Qa := L.map fun x => x.2.2
theorem Qi6 (L : List (P Qa)) : (sz L).length = L.length := by simp [sz]
theorem Qla (L : List (P Qa)) : (hh L).length = L.length := by simp [hh]
noncomputable def Ub (r : Qu) : List (P Qa) := lay r.1.toNat (Wh r.1.toNat r.2.1.toNat) r.2.2
noncomputable def Vp (a b : Qu) : Qu × Int :=
 if Kc a = true ∧ Kc b = true ∧ a.2.1 = b.1 then ((a.1, b.2.1, hof (K3 nd [] (Ub a ++ Ub b))), 0) else ((0, 0, []), 1)
theorem Qcy {r : Qu} (h : Kc r = true) : Fw r.1.toNat (Ub r) r.2.1.toNat ∧ NfF (Ub r) ∧ sz (Ub r) = (Wh r.1.toNat r.2.1.toNat).map p2 ∧ hh (Ub r) = r.2.2 := by
 obtain ⟨a, e, h1, h2, h3, h4, h5⟩ := Qab.1 h
 unfold Ub
 rw [h1, h2]
 simp only [Int.toNat_natCast]
 refine ⟨QiZ _ _ _ _ (Ug h3) h5, Qiu _ _ _ _ (Ug h3) h5, ?_, QkR _ _ _ h5⟩
 have := congrArg (List.map p2) (QkL _ _ a h5)
 rw [List.map_map] at this
 exact this
theorem WW {r : Qu} (h : Kc r = true) : 0 ≤ r.1 ∧ r.1 ≤ r.2.1 ∧ r.2.1 ≤ 2147483647 ∧ r.2.2.length ≤ 62 := by
 obtain ⟨a, e, h1, h2, h3, h4, h5⟩ := Qab.1 h
 have := QkJ (Ug h3) h4
 exact ⟨by omega, by omega, by omega, by omega⟩
theorem Qgw (r : Qu) (S : List Int) (hS : S.length = r.2.2.length) (hl : r.2.2.length ≤ 62) {a0 e : Nat} (he : e ≤ 2147483647) : ∀ (L : List (P Qa)) (p i fuel : Nat) (st : List (P Qa)), Fw p L e → S.drop i = sz L → r.2.2.drop i = hh L → i + L.length = S.length → Ct a0 st p → L.length < fuel →
  Q5 (fun (s : Int × Int × (List Qz)) => Zx S r s.1 s.2.1 s.2.2) fuel ((p : Int), (i : Int), rv st) = some ((e : Int), (S.length : Int), rv (K3 nd st L)) := by
 intro L
 induction L with
 | nil =>
  intro p i fuel st hf h1 h2 hi hc hfu
  obtain ⟨fuel, rfl⟩ : ∃ m, fuel = m + 1 := ⟨fuel - 1, by omega⟩
  have hp : p = e := hf
  simp only [List.length_nil, Nat.add_zero] at hi
  rw [Xj (s' := ((p : Int), (i : Int), rv st)) (by
   simp only [Zx]
   rw [QV (by rw [decide_eq_true_eq]; omega)]), hp, hi]
  rfl
 | cons x L ih =>
  intro p i fuel st hf h1 h2 hi hc hfu
  obtain ⟨fuel, rfl⟩ : ∃ m, fuel = m + 1 := ⟨fuel - 1, by omega⟩
  simp only [List.length_cons] at hfu hi
  have hx : x.1 = p := hf.1
  have hle := QeM _ _ _ hf.2.2
  have hi1 : i < S.length := by omega
  rw [List.drop_eq_getElem_cons hi1] at h1
  rw [List.drop_eq_getElem_cons (by omega)] at h2
  injection h1 with h1 h1'
  injection h2 with h2 h2'
  have hpart : (((p : Int), p2 x.2.1, x.2.2) : Qz) = mp x := by unfold mp; rw [hx]
  have hk0 := ZD x.2.1
  have QiT := Qln (a := a0) st x (by rw [hx]; exact hc) (by omega)
  have hpush := QbY nd st x (by rw [hx]; exact hc) hf.2.1
  rw [YK (s' := (((x.1 + 2 ^ x.2.1 : Nat) : Int), ((i + 1 : Nat) : Int), rv (push nd st x))) (by
   simp only [Zx]
   rw [QQ (by rw [decide_eq_true_eq]; omega), Qc (Ju rfl hi1), Qc (Ju rfl (by omega)), Option.bind_some, h1, h2, hpart, Qc QiT, Jm (n := (i : Int) + 1) (by omega) (by omega)]
   rw [show w64 ((p : Int) + p2 x.2.1) = ((x.1 + 2 ^ x.2.1 : Nat) : Int) by unfold p2; rw [Jm (by omega) (by omega)]; omega]; rfl), ih (x.1 + 2 ^ x.2.1) (i + 1) fuel (push nd st x) hf.2.2 h1' h2' (by omega) hpush (by omega)]
  rfl
theorem Qfo {r : Qu} (h : Kc r = true) {a0 : Nat} (st : List (P Qa)) (hc : Ct a0 st r.1.toNat) : ∃ S, ZG r.1 r.2.1 = some S ∧ Q5 (fun (s : Int × Int × (List Qz)) => Zx S r s.1 s.2.1 s.2.2) FU (r.1, (0 : Int), rv st) = some (r.2.1, (S.length : Int), rv (K3 nd st (Ub r))) := by
 obtain ⟨a1, a2, a3, a4⟩ := Qcy h
 obtain ⟨la1, la2, la3, la4⟩ := WW h
 have sa := QbB r.1.toNat r.2.1.toNat (by omega) (by omega)
 rw [show ((r.1.toNat : Nat) : Int) = r.1 by omega, show ((r.2.1.toNat : Nat) : Int) = r.2.1 by omega, ← a3] at sa
 refine ⟨_, sa, ?_⟩
 have hl : (Ub r).length = r.2.2.length := by rw [← a4, Qla]
 have := Qgw r (sz (Ub r)) (by rw [Qi6, hl]) la4 (a0 := a0) (e := r.2.1.toNat) (by omega) (Ub r) r.1.toNat 0 FU st a1 rfl (by rw [List.drop_zero, a4]) (by rw [Qi6]; omega) hc (J7 (by omega))
 rw [show ((r.1.toNat : Nat) : Int) = r.1 by omega, show ((r.2.1.toNat : Nat) : Int) = r.2.1 by omega] at this
 exact this
theorem Qg6 (a b : Qu) : XV a b = some (Vp a b) := by
 unfold XV Vp
 rw [Qc (Qbf a)]
 by_cases ha : Kc a = true
 ·rw [ha, QV (by decide), Qc (Qbf b)]
  by_cases hb : Kc b = true
  ·rw [hb, Option.bind_some, QV (by decide), Option.bind_some]
   by_cases hab : a.2.1 = b.1
   ·rw [QV (by simp [hab]), if_pos (show true = true ∧ true = true ∧ a.2.1 = b.1 from ⟨rfl, rfl, hab⟩)]
    obtain ⟨a1, a2, a3, a4⟩ := Qcy ha
    obtain ⟨b1, b2, b3, b4⟩ := Qcy hb
    obtain ⟨la1, la2, la3, la4⟩ := WW ha
    obtain ⟨lb1, lb2, lb3, lb4⟩ := WW hb
    obtain ⟨S, s1, s2⟩ := Qfo ha (a0 := a.1.toNat) [] rfl
    have hc := qi nd (Ub a) [] a.1.toNat _ rfl a1
    obtain ⟨T, t1, t2⟩ := Qfo hb (a0 := a.1.toNat) (K3 nd [] (Ub a)) (by rw [← hab]; exact hc)
    have hc2 := qi nd (Ub b) _ b.1.toNat _ (by rw [← hab]; exact hc) b1
    have hl := Qa6 _ _ hc2
    have hs1 : Q5 (fun (s : Int × Int × (List Qz)) => Zx S a s.1 s.2.1 s.2.2) FU (a.1, (0 : Int), ([] : List Qz)) = _ := s2
    have hloop : Q5 (fun (s : Int × (List Qz)) => ZS a b s.1 s.2) FU ((0 : Int), ([] : List Qz)) = some ((2 : Int), rv (K3 nd (K3 nd [] (Ub a)) (Ub b))) := by
     obtain ⟨fuel, hfu⟩ : ∃ m, FU = m + 3 := ⟨FU - 3, by unfold FU; rfl⟩
     rw [show Q5 (fun (s : Int × (List Qz)) => ZS a b s.1 s.2) FU = Q5 (fun (s : Int × (List Qz)) => ZS a b s.1 s.2) (fuel + 3) by rw [hfu]]
     rw [YK (s' := ((1 : Int), rv (K3 nd [] (Ub a)))) (by
      simp only [ZS]
      rw [QQ (by simp), Qc (Ju (i := (0 : Int)) (k := 0) rfl (by simp))]
      show Option.bind (ZG a.1 a.2.1) _ = _
      rw [Qc s1]
      show Option.bind (Q5 (fun (s : Int × Int × (List Qz)) => Zx S a s.1 s.2.1 s.2.2) FU (a.1, (0 : Int), ([] : List Qz))) _ = _
      rw [Qc hs1, Jm (by omega) (by omega)]; rfl), YK (s' := ((2 : Int), rv (K3 nd (K3 nd [] (Ub a)) (Ub b)))) (by
      simp only [ZS]
      rw [QQ (by simp), Qc (Ju (i := (1 : Int)) (k := 1) rfl (by simp))]
      show Option.bind (ZG b.1 b.2.1) _ = _
      rw [Qc t1]
      show Option.bind (Q5 (fun (s : Int × Int × (List Qz)) => Zx T b s.1 s.2.1 s.2.2) FU (b.1, (0 : Int), rv (K3 nd [] (Ub a)))) _ = _
      rw [Qc t2, Jm (by omega) (by omega)]; rfl), Xj (s' := ((2 : Int), rv (K3 nd (K3 nd [] (Ub a)) (Ub b)))) (by
      simp only [ZS]
      rw [QV (by simp)])]
    rw [Qc hloop, Qc (QhN _ (by omega)), Option.bind_some]
    simp [K3, List.foldl_append]
   ·rw [QQ (by simp [hab]), if_neg (show ¬ (true = true ∧ true = true ∧ a.2.1 = b.1) from fun h => hab h.2.2)]
  ·rw [Bool.not_eq_true] at hb
   rw [hb, Option.bind_some, QQ (by rfl), Option.bind_some, QQ rfl, if_neg (fun h => by cases h.2.1)]
 ·rw [Bool.not_eq_true] at ha
  rw [ha, QQ (by rfl), Option.bind_some, QQ rfl, Option.bind_some, QQ rfl, if_neg (fun h => by cases h.1)]
theorem Qil (a : Nat) (l : List Qa) (S : List Int) (hS : S.length ≤ 62) (hl : l.length ≤ 2147483647) : ∀ (ks : List Nat) (p i fuel : Nat) (acc : List Qa), Seg p (a + l.length) ks → a ≤ p → S.drop i = ks.map p2 → i + ks.length = S.length → acc.length = i → ks.length < fuel →
  ∃ u v, Q5 (fun (s : (List Qa) × Int × (List Qa)) => Yg S s.1 s.2.1 s.2.2) fuel (l.drop (p - a), (i : Int), acc) = some (u, v, acc ++ vl (vt a l) p ks) := by
 intro ks
 induction ks with
 | nil =>
  intro p i fuel acc hs hp h1 hi ha hfu
  obtain ⟨fuel, rfl⟩ : ∃ m, fuel = m + 1 := ⟨fuel - 1, by omega⟩
  simp only [List.length_nil] at hi
  exact ⟨l.drop (p - a), (i : Int), by
   rw [Xj (s' := (l.drop (p - a), (i : Int), acc)) (by
    simp only [Yg]
    rw [QV (by rw [decide_eq_true_eq]; omega)])]
   simp [vl]⟩
 | cons k ks ih =>
  intro p i fuel acc hs hp h1 hi ha hfu
  obtain ⟨fuel, rfl⟩ : ∃ m, fuel = m + 1 := ⟨fuel - 1, by omega⟩
  simp only [List.length_cons] at hfu hi
  have hi1 : i < S.length := by omega
  rw [List.drop_eq_getElem_cons hi1] at h1
  injection h1 with h1 h1'
  have hg : ZC S (i : Int) = some (p2 k) := by rw [Ju rfl hi1, h1]
  have hsz := hs.2.1.1
  have hle := QdR _ _ _ hs.2.2
  have hk0 := ZD k
  have hsl : 2 ^ k ≤ (l.drop (p - a)).length := by rw [List.length_drop]; omega
  obtain ⟨u, v, huv⟩ := ih (p + 2 ^ k) (i + 1) fuel (acc ++ [vt a l p k]) hs.2.2 (by omega) h1' (by omega) (by simp [ha]) (by omega)
  refine ⟨u, v, ?_⟩
  rw [YK (s' := (l.drop (p + 2 ^ k - a), ((i + 1 : Nat) : Int), acc ++ [vt a l p k])) (by
   simp only [Yg]
   rw [QQ (by rw [decide_eq_true_eq]; omega), Qc hg, show p2 k = ((2 ^ k : Nat) : Int) by unfold p2; rfl, Qc (Z9 (lo := (0 : Int)) (a := 0) (b := 2 ^ k) rfl rfl (by omega) hsl)]
   rw [List.drop_zero, Qc (Qfb _ (by rw [List.length_take]; omega)), QQ (QcR (by simp; omega)), Qc hg, show p2 k = ((2 ^ k : Nat) : Int) by unfold p2; rfl, Qc (Z9 (a := 2 ^ k) (b := (l.drop (p - a)).length) rfl rfl hsl (Nat.le_refl _)), List.take_length, List.drop_drop, Jm (n := (i : Int) + 1) (by omega) (by omega), show p - a + 2 ^ k = p + 2 ^ k - a by omega]
   rfl), huv]
  simp [vl]
theorem Qk0 (l : List Qa) (a : Nat) (h : a + l.length ≤ 2147483647) : Ye (a : Int) l = some (((a : Int), ((a + l.length : Nat) : Int), hsh a l), (0 : Int)) := by
 unfold Ye
 rw [QV (by rw [decide_eq_true_eq]; omega), Option.bind_some, QV (by rw [decide_eq_true_eq]; omega), Jm (n := 2147483647 - (a : Int)) (by omega) (by omega), Option.bind_some, QV (by rw [decide_eq_true_eq]; omega)]
 have hw : w64 ((a : Int) + (l.length : Int)) = ((a + l.length : Nat) : Int) := by rw [Jm (by omega) (by omega)]; omega
 have hs := Ug (show a ≤ a + l.length by omega)
 have h62 := QkJ hs h
 obtain ⟨u, v, huv⟩ := Qil a l ((Wh a (a + l.length)).map p2) (by rw [List.length_map]; exact h62) (by omega) (Wh a (a + l.length)) a 0 FU [] hs (Nat.le_refl _) rfl (by simp) rfl (J7 (by omega))
 rw [Nat.sub_self, List.drop_zero] at huv
 have huv' : Q5 (fun (s : (List Qa) × Int × (List Qa)) => Yg ((Wh a (a + l.length)).map p2) s.1 s.2.1 s.2.2) FU (l, (0 : Int), ([] : List Qa)) = _ := huv
 rw [hw, Qc (Qey a (a + l.length) (by omega) h), Qc huv', Option.bind_some, List.nil_append, ← Qk4]
end Go.Sl.Pu
set_option maxRecDepth 20000
namespace Go.Sl.Pu
open Go.Sl Go.Sl.M Go.Sl.Fr
attribute [local irreducible] sha nd w64 p2 hsh Wh
theorem Qce {H : Type} : ∀ (L : List (P H)) (a e : Nat) (x : P H), Fw a L e → x ∈ L → a ≤ x.1 ∧ x.1 + 2 ^ x.2.1 ≤ e
 | y :: L, a, e, x, h, hx => by
  have hle := QeM _ _ _ h.2.2
  have h1 := h.1
  rcases List.mem_cons.1 hx with rfl | hx
  ·omega
  ·have := Qce L _ _ x h.2.2 hx
   have := ZD y.2.1
   omega
theorem Qcd (a : Nat) (l : List Qa) : Ub ((a : Int), ((a + l.length : Nat) : Int), hsh a l) = (cst a l).reverse := by
 unfold Ub
 simp only [Int.toNat_natCast]
 exact Qjt a l
theorem Qjc {H : Type} {st : List (P H)} (h : Nf st) (nd : H → H → H) : K3 nd [] st.reverse = st := by
 rw [Qc9 nd _ [] (Qea st h) (fun y hy => by cases hy)]; simp
theorem Qkr (a : Nat) (l m : List Qa) : K3 nd (cst a l) (cst (a + l.length) m).reverse = cst a (l ++ m) := by
 have r1 := Qes (a + l.length) m
 have h1 : Ct a (K3 nd (cst a l) (cst (a + l.length) m).reverse) (a + (l ++ m).length) := by
  rw [List.length_append, ← Nat.add_assoc]; exact qi nd _ _ _ _ (Qew a l) r1.1
 have h2 : Nf (K3 nd (cst a l) (cst (a + l.length) m).reverse) := Qd1 nd _ _ (Qf7 a l)
 have hv : ∀ p k, a ≤ p → p + 2 ^ (k + 1) ≤ a + (l ++ m).length → 2 ^ (k + 1) ∣ p → vt a (l ++ m) p (k + 1) = nd (vt a (l ++ m) p k) (vt a (l ++ m) (p + 2 ^ k) k) := fun p k h1 h2 _ => Qg3 h1 h2
 have hv1 : Hs (vt a (l ++ m)) (cst a l) := by
  intro x hx
  rw [Qi2 a l x hx]
  have hm := Qce _ _ _ _ (Qes a l).1 (List.mem_reverse.2 hx)
  have hk0 := ZD x.2.1
  unfold vt
  rw [List.drop_append_of_le_length (by omega), List.take_append_of_le_length (by rw [List.length_drop]; omega)]
 have hv2 : Hs (vt a (l ++ m)) (cst (a + l.length) m).reverse := by
  intro x hx
  rw [r1.2.2 x hx]
  have hm := Qce _ _ _ _ r1.1 hx
  unfold vt
  rw [show x.1 - a = l.length + (x.1 - (a + l.length)) by omega, ← List.drop_drop, List.drop_left]
 have h3 : Hs (vt a (l ++ m)) (K3 nd (cst a l) (cst (a + l.length) m).reverse) := Qeh hv _ _ _ _ (Qew a l) r1.1 (by rw [List.length_append]; omega) hv1 hv2
 have r2 := Qes a (l ++ m)
 have := QgE (Qjk _ _ _ h1) (Qea _ h2) (QiF h3) r2.1 r2.2.1 r2.2.2
 exact List.reverse_inj.1 this
theorem QkE (a : Nat) (l m : List Qa) (h : a + l.length + m.length ≤ 2147483647) : Vp ((a : Int), ((a + l.length : Nat) : Int), hsh a l) (((a + l.length : Nat) : Int), ((a + l.length + m.length : Nat) : Int), hsh (a + l.length) m) = (((a : Int), ((a + (l ++ m).length : Nat) : Int), hsh a (l ++ m)), 0) := by
 unfold Vp
 rw [if_pos ⟨Qbl a l (by omega), Qbl (a + l.length) m h, rfl⟩, Qcd, Qcd]
 have h1 : K3 nd [] ((cst a l).reverse ++ (cst (a + l.length) m).reverse) = cst a (l ++ m) := by
  unfold K3
  rw [List.foldl_append]
  show K3 nd (K3 nd [] (cst a l).reverse) _ = _
  rw [Qjc (Qf7 a l), Qkr]
 rw [h1, List.length_append, ← Nat.add_assoc]
 refine congrArg (fun v => (((a : Int), ((a + l.length + m.length : Nat) : Int), v), (0 : Int))) ?_
 unfold hsh; rfl
end Go.Sl.Pu
set_option maxRecDepth 20000
namespace Go.Sl.Pu
open Go.Sl Go.Sl.M Go.Sl.Fr
attribute [local irreducible] sha nd w64 p2 hsh Wh
def rg (s t : Nat) (l : List Qa) : Qu := ((s : Int), (t : Int), l)
theorem Qlw {s t u : Nat} {l m : List Qa} (h : s + l.length = t) (h2 : t + m.length = u) (hu : u ≤ 2147483647) : Vp (rg s t (hsh s l)) (rg t u (hsh t m)) = (rg s u (hsh s (l ++ m)), 0) := by
 subst h h2
 have := QkE s l m hu
 unfold rg
 rw [this, List.length_append, Nat.add_assoc]
theorem QkK (l : List Qa) (h : l.length ≤ 2147483647) : Kw (rg 0 l.length (hsh 0 l)) = (mth l, 0) := QjO l h
end Go.Sl.Pu
set_option maxRecDepth 20000
namespace Go.Sl.Pu
open Go.Sl Go.Sl.M Go.Sl.Fr
attribute [local irreducible] sha nd
inductive Tr where
 | part (h : Qa)
 | node (l r : Tr)
def Tr.h : Tr → Qa
 | .part h => h
 | .node l r => nd l.h r.h
def Tr.ts : Tr → List (List (BitVec 8))
 | .part _ => []
 | .node l r => txt l.h r.h :: (l.ts ++ r.ts)
def JM : List Qa → Tr → Prop
 | l, .part h => h = mth l
 | l, .node a b => JM (l.take (QcJ l.length)) a ∧ JM (l.drop (QcJ l.length)) b
def QlX {H K : Type} (f : H → K) (L : List (P H)) : List (P K) := L.map fun x => (x.1, x.2.1, f x.2.2)
def sl (l : List Qa) (p n : Nat) : List Qa := (l.drop p).take n
end Go.Sl.Pu
set_option maxRecDepth 20000
namespace Go.Sl.Pu
open Go.Sl Go.Sl.M Go.Sl.Fr
attribute [local irreducible] sha nd w64 p2 hsh Wh
noncomputable def QcH (l : List Qa) (i : Int) : YS × Int := if 0 ≤ i ∧ i ≤ l.length then ((hsh 0 (l.take i.toNat), hsh i.toNat (l.drop i.toNat)), 0) else (([], []), 4)
theorem QlJ {s t : Nat} {l : List Qa} (h : s + l.length = t) (ht : t ≤ 2147483647) : Ye (s : Int) l = some (rg s t (hsh s l), (0 : Int)) := by
 subst h; exact Qk0 l s ht
theorem QfK (l : List Qa) (i : Int) (hl : l.length ≤ 2147483647) : Y7 l i = some (QcH l i) := by
 unfold Y7 QcH
 by_cases h : 0 ≤ i ∧ i ≤ l.length
 ·obtain ⟨i, rfl⟩ : ∃ n : Nat, i = (n : Int) := ⟨i.toNat, by omega⟩
  have h1 : i ≤ l.length := by omega
  have e1 : (l.take i).length = i := by rw [List.length_take]; omega
  have t1 : Ye (0 : Int) (l.take i) = some (rg 0 i (hsh 0 (l.take i)), (0 : Int)) := QlJ (s := 0) (by omega) (by omega)
  have t2 : Ye (i : Int) (l.drop i) = some (rg i l.length (hsh i (l.drop i)), (0 : Int)) := QlJ (by rw [List.length_drop]; omega) hl
  rw [QV (by rw [decide_eq_true_eq]; omega), Option.bind_some, QV (by rw [decide_eq_true_eq]; omega), Qc (Z9 (lo := (0 : Int)) (a := 0) (b := i) rfl rfl (by omega) (by omega)), List.drop_zero, Qc t1, Qc (Z9 (a := i) (b := l.length) rfl rfl (by omega) (Nat.le_refl _)), List.take_length, Qc t2, Option.bind_some, if_pos h]
  rfl
 ·rw [if_neg h]
  by_cases h0 : i < 0
  ·rw [QQ (by rw [decide_eq_true_eq]; exact h0), Option.bind_some, QQ rfl, Option.bind_some]
  ·rw [QV (by rw [decide_eq_true_eq]; exact h0), Option.bind_some, QQ (by rw [decide_eq_true_eq]; omega), Option.bind_some]
theorem QhV (a b : Qu) : (Vp a b).1.2.2.length ≤ 2147483647 := by
 unfold Vp
 split
 ·rename_i h
  obtain ⟨a1, a2, a3, a4⟩ := Qcy h.1
  obtain ⟨b1, b2, b3, b4⟩ := Qcy h.2.1
  obtain ⟨la1, la2, la3, la4⟩ := WW h.1
  obtain ⟨lb1, lb2, lb3, lb4⟩ := WW h.2.1
  have hf : Fw a.1.toNat (Ub a ++ Ub b) b.2.1.toNat := QfS _ _ _ _ _ a1 (by rw [h.2.2]; exact b1)
  have := Qa6 _ _ (qi nd _ [] a.1.toNat _ rfl hf)
  show (hof _).length ≤ _
  unfold hof
  rw [List.length_map, List.length_reverse]
  omega
 ·simp
noncomputable def QlS (a b c : Qu) : Bool := decide ((Vp a b).2 = 0 ∧ (Vp (Vp a b).1 c).2 = 0 ∧ (Kw (Vp (Vp a b).1 c).1).2 = 0)
theorem QjV (root : Qa) (a : Qu) (ha : a.2.2.length ≤ 4000000000) : XQ root [a] = some (decide ((Kw a).2 = 0 ∧ (Kw a).1 = root)) := by
 unfold XQ
 rw [Qc (Ju (i := (0 : Int)) (k := 0) rfl (by simp)), Qc (Z9 (lo := (1 : Int)) (hi := (([a] : List Qu).length : Int)) (a := 1) (b := 1) rfl rfl (by omega) (by simp))]
 obtain ⟨fuel, hfu⟩ : ∃ m, FU = m + 1 := ⟨FU - 1, by unfold FU; rfl⟩
 have hl : Z2 (fun (s : Int × Qu) => JL [] s.1 s.2) FU ((0 : Int), a) = some (.inl ((0 : Int), a)) := by
  rw [hfu, WV (s' := ((0 : Int), a)) (by
   simp only [JL]
   rw [QV (by simp)])]
 show Option.bind (Z2 (fun (s : Int × Qu) => JL [] s.1 s.2) FU ((0 : Int), a)) _ = _
 rw [Qc hl]
 simp only []
 rw [Qc (Qg7 _ ha)]
 by_cases h3 : (Kw a).2 = 0 <;> simp [h3]
theorem QjD (root : Qa) (a b : Qu) : XQ root [a, b] = some (decide ((Vp a b).2 = 0 ∧ (Kw (Vp a b).1).2 = 0 ∧ (Kw (Vp a b).1).1 = root)) := by
 unfold XQ
 rw [Qc (Ju (i := (0 : Int)) (k := 0) rfl (by simp)), Qc (Z9 (lo := (1 : Int)) (hi := (([a, b] : List Qu).length : Int)) (a := 1) (b := 2) rfl rfl (by omega) (by simp))]
 have w1 : w64 ((0 : Int) + 1) = 1 := by rw [Jm (by omega) (by omega)]; rfl
 obtain ⟨fuel, hfu⟩ : ∃ m, FU = m + 2 := ⟨FU - 2, by unfold FU; rfl⟩
 show Option.bind (Z2 (fun (s : Int × Qu) => JL [b] s.1 s.2) FU ((0 : Int), a)) _ = _
 by_cases h1 : (Vp a b).2 = 0
 ·have s1 : JL [b] (0 : Int) a = some (.next ((1 : Int), (Vp a b).1)) := by
   simp only [JL]
   rw [QQ (by simp), Qc (Ju (i := (0 : Int)) (k := 0) rfl (by simp))]
   show Option.bind (XV a b) _ = _
   rw [Qc (Qg6 a b), QV (by simp [h1]), w1]
  have hl : Z2 (fun (s : Int × Qu) => JL [b] s.1 s.2) FU ((0 : Int), a) = some (.inl ((1 : Int), (Vp a b).1)) := by
   rw [hfu, Bi (f := fun (s : Int × Qu) => JL [b] s.1 s.2) (s := ((0 : Int), a)) s1, WV (s' := ((1 : Int), (Vp a b).1)) (by
    simp only [JL]
    rw [QV (by simp)])]
  rw [Qc hl]
  simp only []
  rw [Qc (Qg7 _ (Nat.le_trans (QhV _ _) (by omega)))]
  by_cases h3 : (Kw (Vp a b).1).2 = 0 <;> simp [h1, h3]
 ·have s1 : JL [b] (0 : Int) a = some (.ret false) := by
   simp only [JL]
   rw [QQ (by simp), Qc (Ju (i := (0 : Int)) (k := 0) rfl (by simp))]
   show Option.bind (XV a b) _ = _
   rw [Qc (Qg6 a b), QQ (by simp [h1])]
  have hl : Z2 (fun (s : Int × Qu) => JL [b] s.1 s.2) FU ((0 : Int), a) = some (.inr false) := by
   rw [hfu, B6 (f := fun (s : Int × Qu) => JL [b] s.1 s.2) (s := ((0 : Int), a)) s1]
  rw [Qc hl]
  simp [h1]
noncomputable def isG (t : YS) (m n : Int) (old root : Qa) : Bool :=
 decide (0 ≤ m ∧ m ≤ n ∧ n ≤ 2147483647 ∧ (Kw (0, m, t.1)).2 = 0 ∧ (Kw (0, m, t.1)).1 = old ∧ (Vp (0, m, t.1) (m, n, t.2)).2 = 0 ∧ (Kw (Vp (0, m, t.1) (m, n, t.2)).1).2 = 0 ∧ (Kw (Vp (0, m, t.1) (m, n, t.2)).1).1 = root)
theorem Qlg (t : YS) (m n : Int) (old root : Qa) (ht : t.1.length ≤ 4000000000) : VR t m n old root = some (isG t m n old root) := by
 unfold VR isG
 by_cases h1 : m < 0
 ·rw [QQ (decide_eq_true h1), Option.bind_some, QQ rfl, Option.bind_some, QQ rfl, decide_eq_false (fun hh => by omega)]
 ·rw [QV (by rw [decide_eq_true_eq]; exact h1), Option.bind_some]
  by_cases h2 : n < m
  ·rw [QQ (decide_eq_true h2), Option.bind_some, QQ rfl, decide_eq_false (fun hh => by omega)]
  ·rw [QV (by rw [decide_eq_true_eq]; exact h2), Option.bind_some]
   by_cases h3 : 2147483647 < n
   ·rw [QQ (decide_eq_true h3), decide_eq_false (fun hh => by omega)]
   ·rw [QV (by rw [decide_eq_true_eq]; exact h3), Option.bind_some, Option.bind_some, Qc (QjV _ _ ht), Qc (QjD _ _ _)]
    have g : 0 ≤ m ∧ m ≤ n ∧ n ≤ 2147483647 := ⟨by omega, by omega, by omega⟩
    by_cases h4 : (Kw (0, m, t.1)).2 = 0 ∧ (Kw (0, m, t.1)).1 = old
    ·simp [h4, g]
    ·rw [decide_eq_false h4, QV (by decide), Option.bind_some, decide_eq_false (fun hh => h4 ⟨hh.2.2.2.1, hh.2.2.2.2.1⟩)]
theorem Qin (l : List Qa) (i : Int) : (QcH l i).1.1.length ≤ l.length ∧ (QcH l i).1.2.length ≤ l.length := by
 unfold QcH
 split
 ·have h1 := Qiz 0 (l.take i.toNat)
  have h2 := Qiz (i.toNat) (l.drop (i.toNat))
  rw [List.length_take] at h1
  rw [List.length_drop] at h2
  exact ⟨by show (hsh _ _).length ≤ _; omega, by show (hsh _ _).length ≤ _; omega⟩
 ·simp
theorem QhX (l : List Qa) (i : Nat) (hi : i ≤ l.length) (hl : l.length ≤ 2147483647) : isG (QcH l i).1 i l.length (mth (l.take i)) (mth l) = true := by
 have he : QcH l i = ((hsh 0 (l.take i), hsh i (l.drop i)), 0) := by
  unfold QcH
  rw [if_pos (by omega)]; rfl
 have e1 : (l.take i).length = i := by rw [List.length_take]; omega
 have e2 : (l.drop i).length = l.length - i := by rw [List.length_drop]
 have j1 : Vp (0, (i : Int), hsh 0 (l.take i)) ((i : Int), (l.length : Int), hsh i (l.drop i)) = (rg 0 l.length (hsh 0 l), 0) := by
  have := Qlw (s := 0) (t := i) (u := l.length) (l := l.take i) (m := l.drop i) (by omega) (by omega) hl
  rw [List.take_append_drop] at this
  exact this
 have r1 : Kw (0, (i : Int), hsh 0 (l.take i)) = (mth (l.take i), 0) := by
  have := QkK (l.take i) (by omega)
  rw [e1] at this
  exact this
 unfold isG
 rw [he]
 simp only []
 rw [j1, r1, QkK l hl]
 simp
 omega
end Go.Sl.Pu
set_option maxRecDepth 20000
namespace Go.Sl.Pu
open Go.Sl Go.Sl.M Go.Sl.Fr
attribute [local irreducible] sha nd w64 p2 hsh Wh
abbrev hR (L : List (P Tr)) : List (P Qa) := QlX Tr.h L
attribute [local irreducible] Vp Kw QlS Kc Ub
end Go.Sl.Pu
namespace Go.Sl
namespace Pu
open Go.Sl Go.Sl.M Go.Sl.Fr
def ent (e : Nat) : Qa := sha (0#8 :: (be (BitVec.ofInt 32 (e : Int)) 4 ++ (#v[BitVec.ofInt 8 (e : Int), 0#8, 0#8, 0#8, 0#8, 0#8, 0#8, 0#8, 0#8, 0#8, 0#8, 0#8, 0#8, 0#8, 0#8, 0#8, 0#8, 0#8, 0#8, 0#8, 0#8, 0#8, 0#8, 0#8, 0#8, 0#8, 0#8, 0#8, 0#8, 0#8, 0#8, 0#8] : Qa).toList))
def Wn (n : Nat) : List Qa := (List.range n).map fun i => ent (i + 1)
theorem U3 (n : Nat) : (Wn n).length = n := by simp [Wn]
theorem QhD (n : Nat) : Wn (n + 1) = Wn n ++ [ent (n + 1)] := by simp [Wn, List.range_succ]
theorem QhM {m n : Nat} (h : m ≤ n) : (Wn n).take m = Wn m := by
 unfold Wn
 rw [← List.map_take, List.take_range, Nat.min_eq_left h]
theorem Qg8 (n : Nat) (hn : n ≤ 1000) : Yl (n : Int) = some (Wn n) := by
 unfold Yl
 obtain ⟨s, h1, h2⟩ := WP (f := fun (s : Int × (List Qa)) => Yp (n : Int) s.1 s.2) (fun (s : Int × (List Qa)) => ∃ i : Nat, i ≤ n ∧ s = (((i + 1 : Nat) : Int), Wn i)) (fun (s : Int × (List Qa)) => n + 1 - s.1.toNat) (fun (s : Int × (List Qa)) => s.2 = Wn n) (by
  rintro s ⟨i, hi, rfl⟩
  simp only [Yp]
  by_cases h : i < n
  ·left
   have hl := U3 i
   rw [QQ (by simp; omega), Option.bind_some, Qc (QfV ((i + 1 : Nat) : Int) _), QQ (by simp [AP]; omega), Jk (by omega)]
   exact ⟨_, rfl, ⟨i + 1, by omega, by rw [QhD]; rfl⟩, by dsimp only; omega⟩
  ·right
   rw [QV (by simp; omega)]
   have : i = n := by omega
   subst this
   exact ⟨_, rfl, rfl⟩) FU ((1 : Int), ([] : List Qa)) ⟨0, by omega, rfl⟩ (Nat.lt_of_le_of_lt (Nat.sub_le _ _) (J7 (by omega)))
 rw [Qc h1, h2]
theorem Qex (li : List QB) (x : QB) (hl : li.length ≤ 1000) : JJ li x = some (decide (x ∈ li)) := by
 unfold JJ Ze
 obtain ⟨o, h1, h2⟩ := Vx (f := fun (s : Int) => JK li x s) (fun (s : Int) => ∃ i : Nat, s = (i : Int) ∧ i ≤ li.length ∧ ∀ j (h : j < li.length), j < i → x ≠ li[j]) (fun (s : Int) => li.length - s.toNat)
  (fun (o : Int ⊕ Int) => match o with | .inl _ => x ∉ li | .inr r => 0 ≤ r ∧ x ∈ li) (by
  rintro s ⟨i, rfl, h1, h2⟩
  simp only [JK]
  by_cases hi : i < li.length
  ·rw [QQ (by simp; omega), Qc (Ju rfl hi)]
   by_cases he : x = li[i]
   ·right; right
    rw [QQ (by simpa using he)]
    exact ⟨_, rfl, by omega, he ▸ List.getElem_mem hi⟩
   ·left
    rw [QV (by simpa using he), Jk (by omega)]
    refine ⟨_, rfl, ⟨i + 1, by simp, by omega, fun j hj hji => ?_⟩, by omega⟩
    rcases Nat.lt_or_ge j i with h | h
    ·exact h2 j hj h
    ·have : j = i := by omega
     subst this; exact he
  ·right; left
   rw [QV (by simp; omega)]
   refine ⟨_, rfl, fun hm => ?_⟩
   obtain ⟨j, hj, hjx⟩ := List.mem_iff_getElem.1 hm
   exact h2 j hj (by omega) hjx.symm) FU (0 : Int) ⟨0, rfl, by omega, fun j _ h => by omega⟩ (Nat.lt_of_le_of_lt (Nat.sub_le _ _) (J7 (by omega)))
 rw [Qc h1]
 cases o with
 | inl s => rw [decide_eq_false (show x ∉ li from h2)]; rfl
 | inr r => rw [decide_eq_true (show x ∈ li from h2.2)]; simp [h2.1]
theorem Qjj (pu : List (BitVec 8)) (l : List Sgd) (fo : List Qw) (li : List QB) (m n : Int) (t : YS) (hm : 1 ≤ m ∧ m < n) {k1 k2 : Nat} (h1 : JH (some (pu, l, fo, li)) m = some ((k1 : Int), true)) (h2 : JH (some (pu, l, fo, li)) n = some ((k2 : Int), true)) {a b : Sgd} (g1 : l[k1]? = some a) (g2 : l[k2]? = some b) (ht : t.1.length ≤ 4000000000) (hl : li.length ≤ 1000) :
  X6 (pu, l, fo, li) m n t = some (if isG t m n a.1.2.2.2 b.1.2.2.2 = true then ((pu, l, fo, if (m, n) ∈ li then li else li ++ [(m, n)]), 0) else ((pu, l, fo, li), 9)) := by
 unfold X6
 have e1 : ZC l (k1 : Int) = some a := by unfold ZC; rw [if_pos (by omega), Int.toNat_natCast, g1]
 have e2 : ZC l (k2 : Int) = some b := by unfold ZC; rw [if_pos (by omega), Int.toNat_natCast, g2]
 rw [Option.bind_some, QV (by simp; omega), Option.bind_some, QV (by simp; omega), Qc h1, Qc h2]
 dsimp only
 rw [QV (by simp), Option.bind_some, QV (by simp), Qc e1, Qc e2, Qc (Qlg t m n _ _ ht)]
 by_cases h : isG t m n a.1.2.2.2 b.1.2.2.2 = true
 ·rw [if_pos h, QV (by simp [h]), Option.bind_some, Qc (Qex li (m, n) hl)]
  by_cases hx : (m, n) ∈ li
  ·rw [QV (by simp [hx]), if_pos hx]
  ·rw [QQ (by simp [hx]), QQ (by simp [AP]; omega), if_neg hx]
 ·rw [if_neg h, QQ (by simpa using h)]
end Pu
end Go.Sl
namespace Go.Sl
namespace Pu
open Go.Sl Go.Sl.M Go.Sl.Fr
def hdE (e : Nat) : JO := ((e : Int), 1, Vector.replicate 32 0#8, mth (Wn e))
theorem QeL {e : Nat} (h : 1 ≤ e ∧ e ≤ 1000) : qs (hdE e) := ⟨⟨by show (1 : Int) ≤ (e : Int); omega, by show (e : Int) ≤ 2147483647; omega⟩, ⟨Int.le_refl 1, by show (1 : Int) ≤ 2147483647; omega⟩⟩
end Pu
end Go.Sl
namespace Go.Sl
namespace Pu
open Go.Sl Go.Sl.M Go.Sl.Fr
def Vk (v : Vector Bool 9) (e : Nat) : Bool := if h : e < 9 then v[e] else false
theorem Qdp (v : Vector Bool 9) {e : Nat} (he : e < 9) : Vc v (e : Int) = some (Vk v e) := by
 rw [Qej rfl he]
 unfold Vk
 rw [dif_pos he]
theorem QaF (v : Vector Bool 9) {e : Nat} (he : e < 9) (x : Nat) : Vk (v.setIfInBounds e true) x = (decide (x = e) || Vk v x) := by
 unfold Vk
 by_cases hx : x < 9
 ·rw [dif_pos hx, dif_pos hx, Vector.getElem_setIfInBounds]
  by_cases hxe : x = e
  ·subst hxe; simp
  ·rw [if_neg (fun h => hxe h.symm)]; simp [hxe]
 ·rw [dif_neg hx, dif_neg hx]
  have : x ≠ e := by omega
  simp [this]
def eps (v : Vector Bool 9) : List Nat := (List.range 9).filter (Vk v)
abbrev SE (e : Nat) : Sgd := Qgx (hdE e)
def hlE (v : Vector Bool 9) : List Sgd := (eps v).map SE
def epA (v : Vector Bool 9) (e : Nat) : List Nat := (List.range e).filter (Vk v)
def epB (v : Vector Bool 9) (e : Nat) : List Nat := (List.range' (e + 1) (8 - e)).filter (Vk v)
theorem QkZ : ∀ e, e < 9 → List.range 9 = List.range e ++ e :: List.range' (e + 1) (8 - e) := by decide
theorem Qdl (v : Vector Bool 9) {e : Nat} (he : e < 9) : eps v = epA v e ++ ((if Vk v e = true then [e] else []) ++ epB v e) := by
 unfold eps epA epB
 rw [QkZ e he, List.filter_append, List.filter_cons]
 by_cases h : Vk v e = true
 ·rw [if_pos h, if_pos h]; rfl
 ·rw [if_neg h, if_neg h]; rfl
theorem QkH (v : Vector Bool 9) {e : Nat} (he : e < 9) : eps (v.setIfInBounds e true) = epA v e ++ ([e] ++ epB v e) := by
 rw [Qdl _ he, QaF v he, if_pos (by simp)]
 have h1 : epA (v.setIfInBounds e true) e = epA v e := by
  unfold epA
  refine List.filter_congr fun x hx => ?_
  have := List.mem_range.1 hx
  rw [QaF v he, decide_eq_false (by omega)]; rfl
 have h2 : epB (v.setIfInBounds e true) e = epB v e := by
  unfold epB
  refine List.filter_congr fun x hx => ?_
  have := (List.mem_range'_1.1 hx).1
  rw [QaF v he, decide_eq_false (by omega)]; rfl
 rw [h1, h2]
theorem QkX {v : Vector Bool 9} {e x : Nat} (h : x ∈ epA v e) : x < e := List.mem_range.1 (List.mem_filter.1 h).1
theorem Qiw {v : Vector Bool 9} {e x : Nat} (h : x ∈ epB v e) : e < x := (List.mem_range'_1.1 (List.mem_filter.1 h).1).1
theorem Qd0 {v : Vector Bool 9} {x : Nat} (h : x ∈ eps v) : x < 9 ∧ Vk v x = true := ⟨List.mem_range.1 (List.mem_filter.1 h).1, (List.mem_filter.1 h).2⟩
theorem QdX (v : Vector Bool 9) : (eps v).length ≤ 9 := by
 have := List.length_filter_le (Vk v) (List.range 9)
 simpa [eps] using this
theorem Qa2 (v : Vector Bool 9) : qg (hlE v) := ⟨by have := QdX v; simp [hlE]; omega, fun s hs => by
 obtain ⟨x, hx, rfl⟩ := List.mem_map.1 hs
 have := (Qd0 hx).1
 exact show 0 ≤ (x : Int) ∧ (x : Int) ≤ 2147483647 by omega⟩
theorem QhW {A B : List Sgd} {e : Int} (hA : ∀ a ∈ A, a.1.1 < e) (hB : ∀ b ∈ B, e ≤ b.1.1) : Be (A ++ B) e A.length :=
 ⟨by simp, fun i h hi => by rw [List.getElem_append_left hi]; exact hA _ (List.getElem_mem _), fun i h hi => by rw [List.getElem_append_right hi]; exact hB _ (List.getElem_mem _)⟩
theorem W0 (v : Vector Bool 9) {e : Nat} (he : e < 9) : hlE v = (epA v e).map SE ++ ((if Vk v e = true then [SE e] else []) ++ (epB v e).map SE) := by
 unfold hlE
 rw [Qdl v he, List.map_append, List.map_append]
 by_cases h : Vk v e = true
 ·rw [if_pos h, if_pos h]; rfl
 ·rw [if_neg h, if_neg h]; rfl
theorem UH (v : Vector Bool 9) {e : Nat} (he : e < 9) : Be (hlE v) (e : Int) ((epA v e).map SE).length := by
 rw [W0 v he]
 refine QhW (fun a ha => ?_) (fun b hb => ?_)
 ·obtain ⟨x, hx, rfl⟩ := List.mem_map.1 ha
  have := QkX hx
  exact show (x : Int) < (e : Int) by omega
 ·rcases List.mem_append.1 hb with hb | hb
  ·split at hb
   ·rw [List.mem_singleton.1 hb]; exact Int.le_refl _
   ·cases hb
  ·obtain ⟨x, hx, rfl⟩ := List.mem_map.1 hb
   have := Qiw hx
   exact show (e : Int) ≤ (x : Int) by omega
theorem Qke (v : Vector Bool 9) {e : Nat} (he : e < 9) (h : Vk v e = true) : (hlE v)[((epA v e).map SE).length]? = some (SE e) := by
 rw [W0 v he, List.getElem?_append_right (Nat.le_refl _), Nat.sub_self, if_pos h]; rfl
theorem QkI (v : Vector Bool 9) {e : Nat} (he : e < 9) (h : ¬ Vk v e = true) : ¬ ∃ s ∈ (hlE v)[((epA v e).map SE).length]?, s.1.1 = (e : Int) := by
 rw [W0 v he, List.getElem?_append_right (Nat.le_refl _), Nat.sub_self, if_neg h, List.nil_append]
 rintro ⟨s, hs, hse⟩
 have hm : s ∈ (epB v e).map SE := List.mem_of_getElem? hs
 obtain ⟨x, hx, rfl⟩ := List.mem_map.1 hm
 have := Qiw hx
 have : (x : Int) = (e : Int) := hse
 omega
theorem WC (v : Vector Bool 9) (li : List QB) {e : Nat} (he : e < 9) : JH (some (Yb, hlE v, [], li)) (e : Int) = some ((((epA v e).map SE).length : Int), Vk v e) := by
 rw [B8 Yb (hlE v) [] li (e : Int) _ (Qa2 v) (by omega) (UH v he)]
 by_cases h : Vk v e = true
 ·rw [decide_eq_true ⟨SE e, by rw [Qke v he h]; rfl, rfl⟩, h]
 ·rw [decide_eq_false (QkI v he h)]
  rw [Bool.not_eq_true] at h
  rw [h]
theorem QiT (v : Vector Bool 9) {e : Nat} (he1 : 1 ≤ e) (he : e < 9) : Zt (Yb, hlE v, [], []) (SE e) = some ((Yb, hlE (v.setIfInBounds e true), [], []), if Vk v e = true then 11 else 0) := by
 have hr := QgO (hdE e) (QeL ⟨he1, by omega⟩)
 have hs : hlE (v.setIfInBounds e true) = (epA v e).map SE ++ ([SE e] ++ (epB v e).map SE) := by
  unfold hlE
  rw [QkH v he, List.map_append, List.map_append]; rfl
 by_cases h : Vk v e = true
 ·have hg := Qke v he h
  obtain ⟨hk, hx⟩ := List.getElem?_eq_some_iff.1 hg
  rw [if_pos h, Qjl Yb (hlE v) [] [] (SE e) _ hr (Qa2 v) (show 0 ≤ (e : Int) ∧ (e : Int) ≤ 2147483647 by omega) (UH v he) hk (by rw [hx]), hs, W0 v he, if_pos h]
 ·have hd : (hlE v).take ((epA v e).map SE).length ++ [SE e] ++ (hlE v).drop ((epA v e).map SE).length = hlE (v.setIfInBounds e true) := by
   rw [hs, W0 v he, if_neg h, List.take_left, List.drop_left, List.nil_append, List.append_assoc]
  rw [if_neg h, Qfs Yb (hlE v) [] [] (SE e) _ hr (Qa2 v) (show 0 ≤ (e : Int) ∧ (e : Int) ≤ 2147483647 by omega) (UH v he) (QkI v he h) (by have := QdX v; simp [hlE]; omega) (Qbh (hdE e)), hd]
theorem QiI {li : List Lk} (h : ∀ p ∈ li, p.1 < p.2) {m : Int} : ∀ {n : Int}, Rch li m n → m ≤ n
 | _, .refl => Int.le_refl _
 | _, .step hr hl => by
  have := QiI h hr
  have := h _ hl
  dsimp only at this
  omega
theorem Qfn {li : List Lk} {x : Lk} {m : Int} : ∀ {n : Int}, Rch li m n → Rch (li ++ [x]) m n
 | _, .refl => .refl
 | _, .step hr hl => .step (Qfn hr) (List.mem_append_left _ hl)
def Lks (v : Vector Bool 9) (last : Nat) (li : List Lk) : Prop := (∀ p ∈ li, p.1 < p.2) ∧ ∀ a b : Nat, Vk v a = true → Vk v b = true → a ≤ b → b ≤ last → Rch li (a : Int) (b : Int)
theorem QjU {v : Vector Bool 9} {e : Nat} (h : Vk v e = true) : e < 9 := by
 unfold Vk at h
 split at h
 ·assumption
 ·cases h
theorem QgI (v : Vector Bool 9) {li : List Lk} (hl : li.length ≤ 9) (hk : Lks v 8 li) {m n : Nat} (hm : m < 9) (hn : n < 9) : JW (some (Yb, hlE v, [], li)) (m : Int) (n : Int) = some (Vk v m && (Vk v n && decide (m ≤ n))) := by
 obtain ⟨b, h1, h2⟩ := Qgv Yb (hlE v) [] li (m : Int) (n : Int) (by omega) (WC v li hm) (WC v li hn)
 rw [h1]
 have : (b = true) ↔ (Vk v m && (Vk v n && decide (m ≤ n))) = true := by
  rw [h2]
  simp only [Bool.and_eq_true, decide_eq_true_eq]
  constructor
  ·rintro ⟨p, q, r⟩
   have := QiI hk.1 r
   exact ⟨p, q, by omega⟩
  ·rintro ⟨p, q, r⟩
   exact ⟨p, q, hk.2 m n p q r (by omega)⟩
 exact congrArg some (Bool.eq_iff_iff.2 this)
theorem QlQ {e m : Nat} (h : m ≤ e) (he : e ≤ 100) : isG (QcH (Wn e) (m : Int)).1 (m : Int) (e : Int) (mth (Wn m)) (mth (Wn e)) = true := by
 have := QhX (Wn e) m (by rw [U3]; exact h) (by rw [U3]; omega)
 rw [U3, QhM h] at this
 exact this
theorem QjF (order : List (BitVec 8)) (ho : order.length ≤ 8) {s : Sg} (hI : IsS 1 2 3 KP s) : ∃ o, Z2 (fun (s : Int × (Vector Bool 9) × (List (BitVec 8)) × (List Qr) × (List Qw) × (List QB) × Int × Int × Qa × (Option Qy) × (Option Qy) × Int) => J5 order s.1 s.2.1 s.2.2.1 s.2.2.2.1 s.2.2.2.2.1 s.2.2.2.2.2.1 s.2.2.2.2.2.2.1 s.2.2.2.2.2.2.2.1 s.2.2.2.2.2.2.2.2.1 s.2.2.2.2.2.2.2.2.2.1 s.2.2.2.2.2.2.2.2.2.2.1 s.2.2.2.2.2.2.2.2.2.2.2) FU ((0 : Int), (Vector.replicate 9 false), Yb, [], [], [], s) = some o ∧ match o with | .inl t => ∃ (i : Int) (v : Vector Bool 9) (s : Sg), t = (i, v, Yb, hlE v, [], [], s) ∧ Vk v 0 = false | .inr _ => False := by
 refine Vx (f := fun (s : Int × (Vector Bool 9) × (List (BitVec 8)) × (List Qr) × (List Qw) × (List QB) × Int × Int × Qa × (Option Qy) × (Option Qy) × Int) => J5 order s.1 s.2.1 s.2.2.1 s.2.2.2.1 s.2.2.2.2.1 s.2.2.2.2.2.1 s.2.2.2.2.2.2.1 s.2.2.2.2.2.2.2.1 s.2.2.2.2.2.2.2.2.1 s.2.2.2.2.2.2.2.2.2.1 s.2.2.2.2.2.2.2.2.2.2.1 s.2.2.2.2.2.2.2.2.2.2.2) (fun t => ∃ (i : Nat) (v : Vector Bool 9) (s : Sg), t = ((i : Int), v, Yb, hlE v, [], [], s) ∧ i ≤ order.length ∧ IsS 1 2 3 KP s ∧ Vk v 0 = false) (fun t => order.length - t.1.toNat) (fun o => match o with | .inl t => ∃ (i : Int) (v : Vector Bool 9) (s : Sg), t = (i, v, Yb, hlE v, [], [], s) ∧ Vk v 0 = false | .inr _ => False) ?_ FU _ ⟨0, Vector.replicate 9 false, s, rfl, by omega, hI, rfl⟩ (Nat.lt_of_le_of_lt (Nat.sub_le _ _) (J7 (by omega)))
 rintro t ⟨i, v, s, rfl, hi, hI, h0⟩
 simp only [J5]
 by_cases h : i < order.length
 ·left
  obtain ⟨e, he, he1, he9⟩ : ∃ e : Nat, w64 ((1 : Int) + ((order[i] % (8#8)).toNat : Int)) = (e : Int) ∧ 1 ≤ e ∧ e < 9 := by
   have hn : (order[i] % (8#8)).toNat < 8 := by rw [BitVec.toNat_umod]; exact Nat.mod_lt _ (by decide)
   exact ⟨1 + (order[i] % (8#8)).toNat, by rw [Jk (by omega)]; omega, by omega, by omega⟩
  have hd := QeL (e := e) ⟨he1, by omega⟩
  obtain ⟨s2, hs2, hI2⟩ := Qfd hI (hdE e) hd
  have hp := QiT v he1 he9
  rw [QQ (by simp; omega), Qc (Ju rfl h), he, Option.bind_some, Qc (Qg8 e (by omega)), Qc (Qfb (Wn e) (by rw [U3]; omega)), Option.bind_some, Qc (show Zy (s.1, s.2.1, s.2.2.1, s.2.2.2.1, s.2.2.2.2.1, s.2.2.2.2.2) ((e : Int), (1 : Int), Vector.replicate 32 0#8, mth (Wn e)) = _ from hs2)]
  dsimp only
  rw [Qc (show Zt (Yb, hlE v, [], []) (hdE e, qJ (hdE e)) = _ from hp)]
  dsimp only
  rw [Qc (Qdp v he9)]
  have hfin : ∃ s', (if 0 ≤ (e : Int) ∧ (e : Int) < (9 : Int) then some (LR.next (ρ := Bool) (w64 ((i : Int) + 1), v.setIfInBounds ((e : Int).toNat) true, Yb, hlE (v.setIfInBounds e true), ([] : List Qw), ([] : List QB), s2)) else none) = some (.next s') ∧ (∃ (i : Nat) (v : Vector Bool 9) (s : Sg), s' = ((i : Int), v, Yb, hlE v, [], [], s) ∧ i ≤ order.length ∧ IsS 1 2 3 KP s ∧ Vk v 0 = false) ∧ order.length - s'.1.toNat < order.length - i := by
   rw [QQ (by omega), Jk (by omega), Int.toNat_natCast]
   refine ⟨_, rfl, ⟨i + 1, v.setIfInBounds e true, s2, rfl, by omega, hI2, ?_⟩, by dsimp only; omega⟩
   rw [QaF v he9, h0, decide_eq_false (by omega)]; rfl
  by_cases hh : Vk v e = true
  ·rw [if_pos hh, hh, QV (by simp), Qc (Qdp v he9), hh, QQ rfl, Option.bind_some, Option.bind_some, QV (by simp)]
   exact hfin
  ·rw [if_neg hh]
   rw [Bool.not_eq_true] at hh
   rw [hh, QV (by simp), Qc (Qdp v he9), hh, QV (by simp), Option.bind_some, Option.bind_some, QV (by simp)]
   exact hfin
 ·right; left
  rw [QV (by simp; omega)]
  exact ⟨_, rfl, (i : Int), v, s, rfl, h0⟩
theorem Qkb (v : Vector Bool 9) (h0 : Vk v 0 = false) : ∃ o, Z2 (fun (s : Int × Int × (List (BitVec 8)) × (List Qr) × (List Qw) × (List QB)) => J6 v s.1 s.2.1 s.2.2.1 s.2.2.2.1 s.2.2.2.2.1 s.2.2.2.2.2) FU ((0 : Int), (1 : Int), Yb, hlE v, [], []) = some o ∧ match o with | .inl t => ∃ (i j : Int) (li : List Lk), t = (i, j, Yb, hlE v, [], li) ∧ li.length ≤ 9 ∧ Lks v 8 li | .inr _ => False := by
 refine Vx (f := fun (s : Int × Int × (List (BitVec 8)) × (List Qr) × (List Qw) × (List QB)) => J6 v s.1 s.2.1 s.2.2.1 s.2.2.2.1 s.2.2.2.2.1 s.2.2.2.2.2) (fun t => ∃ (last e : Nat) (li : List Lk), t = ((last : Int), (e : Int), Yb, hlE v, [], li) ∧ 1 ≤ e ∧ e ≤ 9 ∧ last < e ∧ (0 < last → Vk v last = true) ∧ (∀ x, Vk v x = true → x < e → x ≤ last) ∧ li.length ≤ e ∧ Lks v last li) (fun t => 9 - t.2.1.toNat) (fun o => match o with | .inl t => ∃ (i j : Int) (li : List Lk), t = (i, j, Yb, hlE v, [], li) ∧ li.length ≤ 9 ∧ Lks v 8 li | .inr _ => False) ?_ FU _ ⟨0, 1, [], rfl, by omega, by omega, by omega, fun h => by omega, fun x hx h => by omega, by simp, ⟨fun p hp => (by cases hp), fun a b ha hb hab hb0 => by
  have : b = 0 := by omega
  subst this
  rw [h0] at hb; cases hb⟩⟩ (Nat.lt_of_le_of_lt (Nat.sub_le _ _) (J7 (by omega)))
 rintro t ⟨last, e, li, rfl, he1, he9, hle, hla, hmx, hln, hk⟩
 simp only [J6]
 by_cases h : e < 9
 ·left
  rw [QQ (by simp; omega), Qc (Qdp v h), Jk (n := (e : Int) + 1) (by omega)]
  by_cases hh : Vk v e = true
  ·rw [hh, QV (by decide)]
   by_cases hl0 : 0 < last
   ·have hlast := hla hl0
    have hl9 : last < 9 := by omega
    have hlk := Qjj Yb (hlE v) [] li (last : Int) (e : Int) (QcH (Wn e) (last : Int)).1 (by omega) (by rw [WC v li hl9, hlast]) (by rw [WC v li h, hh]) (Qke v hl9 hlast) (Qke v h hh) (by have := (Qin (Wn e) (last : Int)).1; rw [U3] at this; omega) (by omega)
    have hg : isG (QcH (Wn e) (last : Int)).1 (last : Int) (e : Int) (SE last).1.2.2.2 (SE e).1.2.2.2 = true := QlQ (by omega) (by omega)
    rw [if_pos hg] at hlk
    rw [QQ (by simp; omega), Qc (Qg8 e (by omega)), Qc (QfK (Wn e) (last : Int) (by rw [U3]; omega)), Qc hlk]
    dsimp only
    rw [QV (by simp)]
    have hsub : ∀ {a b : Int}, Rch li a b → Rch (if ((last : Int), (e : Int)) ∈ li then li else li ++ [((last : Int), (e : Int))]) a b := fun {a b} hr => by
     split
     ·exact hr
     ·exact Qfn hr
    have hin : ((last : Int), (e : Int)) ∈ (if ((last : Int), (e : Int)) ∈ li then li else li ++ [((last : Int), (e : Int))]) := by
     split
     ·assumption
     ·simp
    refine ⟨_, rfl, ⟨e, e + 1, (if ((last : Int), (e : Int)) ∈ li then li else li ++ [((last : Int), (e : Int))]), rfl, by omega, by omega, by omega, fun _ => hh, fun x _ hx => by omega, ?_, fun p hp => ?_, fun a b ha hb hab hbe => ?_⟩, by dsimp only; omega⟩
    ·split
     ·omega
     ·simp; omega
    ·split at hp
     ·exact hk.1 p hp
     ·rcases List.mem_append.1 hp with hp | hp
      ·exact hk.1 p hp
      ·rw [List.mem_singleton.1 hp]; dsimp only; omega
    ·by_cases hb2 : b ≤ last
     ·exact hsub (hk.2 a b ha hb hab hb2)
     ·have hbE : b = e := by
       rcases Nat.lt_or_ge b e with h | h
       ·exact absurd (hmx b hb h) hb2
       ·omega
      subst hbE
      by_cases hae : a = b
      ·subst hae; exact .refl
      ·exact .step (hsub (hk.2 a last ha hlast (hmx a ha (by omega)) (Nat.le_refl _))) hin
   ·rw [QV (by simp; omega)]
    refine ⟨_, rfl, ⟨e, e + 1, li, rfl, by omega, by omega, by omega, fun _ => hh, fun x _ hx => by omega, by omega, hk.1, fun a b ha hb hab hbe => ?_⟩, by dsimp only; omega⟩
    have ha0 : a ≠ 0 := fun hc => by rw [hc, h0] at ha; cases ha
    have hae : a = e := by
     rcases Nat.lt_or_ge a e with h | h
     ·have := hmx a ha h; omega
     ·omega
    have hbE : b = e := by omega
    subst hae; subst hbE
    exact .refl
  ·rw [Bool.not_eq_true] at hh
   rw [hh, QQ (by decide)]
   refine ⟨_, rfl, ⟨last, e + 1, li, rfl, by omega, by omega, by omega, hla, fun x hx hxe => ?_, by omega, hk⟩, by dsimp only; omega⟩
   rcases Nat.lt_or_ge x e with h | h
   ·exact hmx x hx h
   ·have : x = e := by omega
    rw [this, hh] at hx; cases hx
 ·right; left
  rw [QV (by simp; omega)]
  refine ⟨_, rfl, (last : Int), (e : Int), li, rfl, by omega, hk.1, fun a b ha hb hab _ => hk.2 a b ha hb hab (hmx b hb (by have := QjU hb; omega))⟩
theorem Qkw (v : Vector Bool 9) {li : List Lk} (hl : li.length ≤ 9) (hk : Lks v 8 li) {m : Nat} (hm : m < 9) : ∃ o, Z2 (fun (s : Int) => J3 Yb (hlE v) [] li (m : Int) v s) FU (1 : Int) = some o ∧ match o with | .inl _ => True | .inr _ => False := by
 refine Vx (f := fun (s : Int) => J3 Yb (hlE v) [] li (m : Int) v s) (fun t => ∃ j : Nat, t = (j : Int) ∧ j ≤ 9) (fun t => 9 - t.toNat) (fun o => match o with | .inl _ => True | .inr _ => False) ?_ FU _ ⟨1, rfl, by omega⟩ (Nat.lt_of_le_of_lt (Nat.sub_le _ _) (J7 (by omega)))
 rintro t ⟨j, rfl, hj⟩
 simp only [J3]
 by_cases h : j < 9
 ·left
  have hle : decide ((m : Int) ≤ (j : Int)) = decide (m ≤ j) := decide_eq_decide.2 (by omega)
  rw [QQ (by simp; omega), Qc (QgI v hl hk hm h), Qc (Qdp v hm), hle, Jk (by omega)]
  have hfin : ∃ s', some (LR.next (ρ := Bool) ((j : Int) + 1)) = some (.next s') ∧ (∃ j : Nat, s' = (j : Int) ∧ j ≤ 9) ∧ 9 - s'.toNat < 9 - j := ⟨_, rfl, ⟨j + 1, rfl, by omega⟩, by omega⟩
  cases Vk v m with
  | false => rw [QV (by simp), Option.bind_some, QV (by simp), Option.bind_some, QV (by simp)]; exact hfin
  | true =>
   rw [QQ rfl, Qc (Qdp v h), Option.bind_some]
   cases Vk v j with
   | false => rw [QV (by simp), Option.bind_some, QV (by simp)]; exact hfin
   | true =>
    rw [QQ rfl, Option.bind_some]
    cases decide (m ≤ j) <;> rw [QV (by decide)] <;> exact hfin
 ·right; left
  rw [QV (by simp; omega)]
  exact ⟨_, rfl, trivial⟩
theorem Qjx (v : Vector Bool 9) {li : List Lk} (hl : li.length ≤ 9) (hk : Lks v 8 li) : ∃ o, Z2 (fun (s : Int) => J4 Yb (hlE v) [] li v s) FU (1 : Int) = some o ∧ match o with | .inl _ => True | .inr _ => False := by
 refine Vx (f := fun (s : Int) => J4 Yb (hlE v) [] li v s) (fun t => ∃ j : Nat, t = (j : Int) ∧ j ≤ 9) (fun t => 9 - t.toNat) (fun o => match o with | .inl _ => True | .inr _ => False) ?_ FU _ ⟨1, rfl, by omega⟩ (Nat.lt_of_le_of_lt (Nat.sub_le _ _) (J7 (by omega)))
 rintro t ⟨j, rfl, hj⟩
 simp only [J4]
 by_cases h : j < 9
 ·left
  obtain ⟨o, h1, h2⟩ := Qkw v hl hk h
  rw [QQ (by simp; omega), Qc h1, Jk (by omega)]
  cases o with
  | inl t => exact ⟨_, rfl, ⟨j + 1, rfl, by omega⟩, by omega⟩
  | inr t => exact h2.elim
 ·right; left
  rw [QV (by simp; omega)]
  exact ⟨_, rfl, trivial⟩
theorem QfW (v : Vector Bool 9) {li : List Lk} (hl : li.length ≤ 9) (hk : Lks v 8 li) : X3 (some (Yb, hlE v, [], li)) = some [] := by
 unfold X3
 rw [QV (by simp)]
 obtain ⟨t, h1, h2⟩ := WP (f := fun (s : Int × (List (Vector Int 2))) => Xd (some (Yb, hlE v, [], li)) s.1 s.2) (fun t => ∃ j : Nat, t = ((j : Int), []) ∧ 1 ≤ j) (fun t => 9 - t.1.toNat) (fun t => t.2 = []) (by
  rintro t ⟨j, rfl, hj⟩
  simp only [Xd]
  rw [Option.bind_some]
  have hlen : (hlE v).length = (eps v).length := by simp [hlE]
  have h9 := QdX v
  by_cases h : j < (hlE v).length
  ·left
   have hj1 : j - 1 < (hlE v).length := by omega
   have g1 : (hlE v)[j - 1] = SE ((eps v)[j - 1]'(by omega)) := by simp [hlE]
   have g2 : (hlE v)[j] = SE ((eps v)[j]'(by omega)) := by simp [hlE]
   have hlt : (eps v)[j - 1]'(by omega) < (eps v)[j]'(by omega) := by
    have hp : List.Pairwise (fun a b => a < b) (eps v) := List.Pairwise.filter _ List.pairwise_lt_range
    exact List.pairwise_iff_getElem.1 hp (j - 1) j (by omega) (by omega) (by omega)
   have m1 := Qd0 (List.getElem_mem (l := eps v) (show j - 1 < (eps v).length by omega))
   have m2 := Qd0 (List.getElem_mem (l := eps v) (show j < (eps v).length by omega))
   have hlk := QgI v hl hk m1.1 m2.1
   rw [m1.2, m2.2, decide_eq_true (by omega)] at hlk
   rw [QQ (by simp; omega), Option.bind_some, Jk (n := (j : Int) - 1) (by omega), Qc (Ju (k := j - 1) (by omega) hj1), Option.bind_some, Qc (Ju rfl h), g1, g2, Qc (show JW (some (Yb, hlE v, [], li)) (SE ((eps v)[j - 1]'(by omega))).1.1 (SE ((eps v)[j]'(by omega))).1.1 = _ from hlk), QV (by decide), Jk (by omega)]
   exact ⟨_, rfl, ⟨j + 1, rfl, by omega⟩, by dsimp only; omega⟩
  ·right
   rw [QV (by simp; omega)]
   exact ⟨_, rfl, rfl⟩) FU ((1 : Int), ([] : List (Vector Int 2))) ⟨1, rfl, by omega⟩ (Nat.lt_of_le_of_lt (Nat.sub_le _ _) (J7 (by omega)))
 rw [Qc h1, h2]
theorem gossipHonest (order : List (BitVec 8)) : ZZ order = some true := by
 unfold ZZ
 rw [Qc QgT, QV (by decide), Option.bind_some]
 by_cases ho : order.length ≤ 8
 ·rw [QV (by simp; omega)]
  obtain ⟨s, hs, hI⟩ := QfA
  have WH : Z1 s = some Yb := QcW ih1 hI
  rw [Qc hs, show ((s.1, s.2.1, s.2.2.1, s.2.2.2.1, s.2.2.2.2.1, s.2.2.2.2.2) : Sg) = s from rfl, Qc WH, Qc (Qhg Yb Qdq)]
  obtain ⟨o, h1, h2⟩ := QjF order ho hI
  rw [Qc (show Z2 _ FU ((0 : Int), (Vector.replicate 9 false), Yb, [], [], [], s) = _ from h1)]
  cases o with
  | inr t => exact h2.elim
  | inl t =>
   obtain ⟨i, v, s2, rfl, h0⟩ := h2
   obtain ⟨o, g1, g2⟩ := Qkb v h0
   dsimp only
   rw [Qc g1]
   cases o with
   | inr t => exact g2.elim
   | inl t =>
    obtain ⟨i, j, li, rfl, hl, hk⟩ := g2
    obtain ⟨o, e1, e2⟩ := Qjx v hl hk
    dsimp only
    rw [Qc e1]
    cases o with
    | inr t => exact e2.elim
    | inl t =>
     dsimp only
     rw [Qc (QfW v hl hk), QQ (by decide), Qc (Qid Yb (hlE v) [] li (by simp) (fun f h => by cases h)), Option.bind_some]
     rfl
 ·rw [QQ (by simp; omega), Qc QgT]
end Pu
end Go.Sl
namespace Go.Sl
abbrev Mem := Nat → Nat → Option Value
def Mle (m m' : Mem) : Prop := ∀ b o v, m b o = some v → m' b o = some v
theorem Mle.refl (m : Mem) : Mle m m := fun _ _ _ h => h
theorem Mle.trans {a b c : Mem} (h : Mle a b) (k : Mle b c) : Mle a c := fun _ _ _ e => k _ _ _ (h _ _ _ e)
structure Slot where
 p : Mem → Value → Prop
 mono : ∀ {m m' : Mem} {v : Value}, Mle m m' → p m v → p m' v
abbrev Env := List (Nat × Slot)
def lk : Env → Nat → Option Slot
 | [], _ => none
 | (t', s) :: Γ, t => bif Nat.beq t' t then some s else lk Γ t
def Y1 (Γ : Env) (m : Mem) (a : Act) : Prop := ∀ t s, lk Γ t = some s → s.p m (a.tmps.getD t undef)
abbrev Hp := List (Nat × TypeId × List Value)
def Hp.bs (hs : Hp) : List Nat := hs.map (·.1)
structure Ent where
 p : Mem → Hp → Prop
 mono : ∀ {m m' : Mem} {h : Hp}, Mle m m' → p m h → p m' h
def Sat : List Ent → Mem → Hp → Prop
 | [], _, hs => hs = []
 | e :: es, m, hs => ∃ h1 h2, hs = h1 ++ h2 ∧ e.p m h1 ∧ Sat es m h2
theorem Sat.mono {m m' : Mem} (hm : Mle m m') : ∀ {H : List Ent} {hs : Hp}, Sat H m hs → Sat H m' hs
 | [], _, h => h
 | _ :: _, _, ⟨h1, h2, e, p, q⟩ => ⟨h1, h2, e, Ent.mono _ hm p, Sat.mono hm q⟩
theorem Sat.append {m : Mem} : ∀ {H1 H2 : List Ent} {h1 h2 : Hp}, Sat H1 m h1 → Sat H2 m h2 → Sat (H1 ++ H2) m (h1 ++ h2)
 | [], _, _, _, h, k => by cases h; simpa using k
 | e :: _, _, _, _, ⟨a, b, he, p, q⟩, k => ⟨a, b ++ _, by simp [he], p, Sat.append q k⟩
theorem Sat.split {m : Mem} : ∀ {H1 H2 : List Ent} {hs : Hp}, Sat (H1 ++ H2) m hs → ∃ h1 h2, hs = h1 ++ h2 ∧ Sat H1 m h1 ∧ Sat H2 m h2
 | [], _, hs, h => ⟨[], hs, rfl, rfl, h⟩
 | e :: _, _, _, ⟨a, b, he, p, q⟩ => by
  obtain ⟨c, d, hb, r, s⟩ := Sat.split q
  exact ⟨a ++ c, d, by simp [he, hb], ⟨a, c, rfl, p, r⟩, s⟩
structure JM (m : Mem) (hs : Hp) (w : World) : Prop where
 mem : ∀ b o v, m b o = some v → w.cell? ⟨b, o, none⟩ = some v
 nodup : hs.bs.Nodup
 blk : ∀ h ∈ hs, w.heap[h.1]? = some (.cells h.2.2.toArray h.2.1 (0, 0))
 free : ∀ h ∈ hs, ∀ o, m h.1 o = none
structure Frm (w w' : World) (m m' : Mem) (bs bs' : List Nat) : Prop where
 os : w'.os = w.os
 tape : w'.tape = w.tape
 output : w'.output = w.output
 size : w.heap.size ≤ w'.heap.size
 old : ∀ b, b < w.heap.size → b ∉ bs → w'.heap[b]? = w.heap[b]? ∧ ∀ o, m' b o = m b o
 own : ∀ b ∈ bs', b ∈ bs ∨ w.heap.size ≤ b
 le : Mle m m'
theorem Frm.refl (w : World) (m : Mem) (bs : List Nat) : Frm w w m m bs bs := ⟨rfl, rfl, rfl, Nat.le_refl _, fun _ _ _ => ⟨rfl, fun _ => rfl⟩, fun _ h => .inl h, Mle.refl _⟩
theorem Frm.trans {w w1 w2 : World} {m m1 m2 : Mem} {b0 b1 b2 : List Nat} (h : Frm w w1 m m1 b0 b1) (k : Frm w1 w2 m1 m2 b1 b2) : Frm w w2 m m2 b0 b2 where
 os := k.os.trans h.os
 tape := k.tape.trans h.tape
 output := k.output.trans h.output
 size := Nat.le_trans h.size k.size
 old := fun b hb hn => by
  have h1 := h.old b hb hn
  have hn1 : b ∉ b1 := fun e => (h.own b e).elim hn (fun e' => absurd hb (Nat.not_lt.2 e'))
  have h2 := k.old b (Nat.lt_of_lt_of_le hb h.size) hn1
  exact ⟨h2.1.trans h1.1, fun o => (h2.2 o).trans (h1.2 o)⟩
 own := fun b hb => (k.own b hb).elim (h.own b) (fun e => .inr (Nat.le_trans h.size e))
 le := h.le.trans k.le
theorem Frm.sub {w w1 : World} {m m1 : Mem} {b0 b1 b2 : List Nat} (h : Frm w w1 m m1 b0 b1) (k : ∀ b ∈ b2, b ∈ b1) : Frm w w1 m m1 b0 b2 :=
 { h with own := fun b hb => h.own b (k b hb) }
theorem Frm.wide {w w1 : World} {m m1 : Mem} {b0 b1 : List Nat} (r : List Nat) (h : Frm w w1 m m1 b0 b1) : Frm w w1 m m1 (b0 ++ r) (b1 ++ r) :=
 { h with
  old := fun b hb hn => h.old b hb (fun e => hn (List.mem_append.2 (.inl e)))
  own := fun b hb => (List.mem_append.1 hb).elim (fun e => (h.own b e).imp (fun e => List.mem_append.2 (.inl e)) id) (fun e => .inl (List.mem_append.2 (.inr e))) }
structure GP where
 p : Mem → Prop
 mono : ∀ {m m' : Mem}, Mle m m' → p m → p m'
structure Ctx where
 P : Program
 N : Nat
 G : GP
 m0 : Mem
 w0 : World
 b0 : List Nat
 ro : Option Nat := none
 mm : Bool := false
def fen (r : Option Nat) : Fence := { Fence.wide with round := r }
theorem Qaa (r : Option Nat) (f : FuncId) : (fen r).fn f := trivial
theorem Qdw (r : Option Nat) : (fen r).depth.isSome = true → 1 ≤ 0 := fun h => by cases h
theorem Qbu {r : Option Nat} {n : Nat} {P : Program} {f : FuncId} {args : Array Value} {w : World} {R : Ending → World → Prop} : CallsIn (fen r) n P f args w R ↔ Calls P f args w R := callsIn_wide (n := n)
abbrev QkF (D : Nat) : Deferred := ⟨.collected D, #[]⟩
def Dfr (c : Ctx) (ds : List Deferred) (w : World) : Prop :=
 match c.mm with
 | false => ds = []
 | true => ∃ Ds : List Nat, ds = Ds.map QkF ∧ Ds.Nodup ∧ ∀ D ∈ Ds, c.w0.heap.size ≤ D ∧ w.heap[D]? = some (.deferred (some []))
theorem JM.neD {m : Mem} {hs : Hp} {w : World} (hg : JM m hs w) {l : Nat} {o : Obj} (ho : w.heap[l]? = some o) (hc : o.isCells = false) : l ∉ hs.bs := by
 intro h
 obtain ⟨x, hx, rfl⟩ := List.mem_map.1 h
 have := hg.blk x hx
 rw [ho] at this
 have := Option.some.inj this
 subst this
 cases hc
theorem Dfr.step {c : Ctx} {ds : List Deferred} {w w' : World} {m m' : Mem} {hs : Hp} {bs : List Nat} (h : Dfr c ds w) (hg : JM m hs w) (hf : Frm w w' m m' hs.bs bs) : Dfr c ds w' := by
 unfold Dfr at *
 cases hm : c.mm with
 | false => rw [hm] at h; exact h
 | true =>
  rw [hm] at h
  obtain ⟨Ds, e, hn, hD⟩ := h
  refine ⟨Ds, e, hn, fun D hd => ⟨(hD D hd).1, ?_⟩⟩
  have h1 := (hD D hd).2
  exact (hf.old D (Array.getElem?_eq_some_iff.1 h1).1 (hg.neD h1 rfl)).1.trans h1
theorem Dfr.none {c : Ctx} {ds : List Deferred} {w : World} (h : Dfr c ds w) (hm : c.mm = false) : ds = [] := by
 unfold Dfr at h; rw [hm] at h; exact h
def St (c : Ctx) (Γ : Env) (H : List Ent) (a : Act) (w : World) : Prop :=
 Dfr c a.defers w ∧ a.tmps.size = c.N ∧ ∃ m hs, JM m hs w ∧ c.G.p m ∧ Y1 Γ m a ∧ Sat H m hs ∧ Frm c.w0 w c.m0 m c.b0 hs.bs
theorem Y1.mono {Γ : Env} {m m' : Mem} {a : Act} (hm : Mle m m') (h : Y1 Γ m a) : Y1 Γ m' a := fun t s e => s.mono hm (h t s e)
theorem Zs (d : Nat) (s : Slot) (Γ : Env) : lk ((d, s) :: Γ) d = some s := by simp [lk]
theorem Yw {d t : Nat} (h : d ≠ t) (s : Slot) (Γ : Env) : lk ((d, s) :: Γ) t = lk Γ t := by
 show (bif Nat.beq d t then some s else lk Γ t) = lk Γ t
 cases hb : Nat.beq d t
 ·rfl
 ·exact absurd (Nat.eq_of_beq_eq_true hb) h
theorem Vw {a : Act} {d : Nat} {v : Value} (h : d < a.tmps.size) : (a.put (some d) v).tmps.getD d undef = v := by
 simp [Act.put, Array.getD, h]
theorem Ux {a : Act} {d t : Nat} {v : Value} (h : d ≠ t) : (a.put (some d) v).tmps.getD t undef = a.tmps.getD t undef := by
 simp only [Act.put, Array.getD]
 by_cases ht : t < a.tmps.size
 ·simp [ht, Array.getElem_setIfInBounds, h]
 ·simp [ht]
theorem Y1.put {Γ : Env} {m : Mem} {a : Act} {d : Nat} {s : Slot} {v : Value} (h : Y1 Γ m a) (hd : d < a.tmps.size) (hv : s.p m v) :
  Y1 ((d, s) :: Γ) m (a.put (some d) v) := by
 intro t s' e
 by_cases ht : d = t
 ·subst ht
  rw [Zs] at e
  cases e
  rw [Vw hd]
  exact hv
 ·rw [Yw ht] at e
  rw [Ux ht]
  exact h t s' e
theorem Xr (a : Act) (d : Option Nat) (v : Value) : (a.put d v).tmps.size = a.tmps.size := by
 cases d <;> simp [Act.put]
theorem Yh (a : Act) (d : Option Nat) (v : Value) : (a.put d v).defers = a.defers := by
 cases d <;> simp [Act.put]
inductive Pick {α : Type} : List α → α → List α → Prop
 | here {e : α} {t : List α} : Pick (e :: t) e t
 | next {x e : α} {t t' : List α} : Pick t e t' → Pick (x :: t) e (x :: t')
theorem Pick.perm {α : Type} {l : List α} {e : α} {r : List α} (h : Pick l e r) : l.Perm (e :: r) := by
 induction h with
 | here => exact List.Perm.refl _
 | next _ ih => exact (List.Perm.cons _ ih).trans (List.Perm.swap _ _ _)
theorem Sat.pick {m : Mem} {H : List Ent} {e : Ent} {H' : List Ent} (k : Pick H e H') : ∀ {hs : Hp}, Sat H m hs → ∃ h1 h2, hs.Perm (h1 ++ h2) ∧ e.p m h1 ∧ Sat H' m h2 := by
 induction k with
 | here => intro hs ⟨h1, h2, he, p, q⟩; exact ⟨h1, h2, he ▸ List.Perm.refl _, p, q⟩
 | next _ ih =>
  intro hs ⟨h1, h2, he, p, q⟩
  obtain ⟨g1, g2, hp, r, s⟩ := ih q
  refine ⟨g1, h1 ++ g2, ?_, r, h1, g2, rfl, p, s⟩
  rw [he]
  exact ((List.Perm.append_left h1 hp).trans (by rw [← List.append_assoc, ← List.append_assoc]; exact List.Perm.append_right g2 List.perm_append_comm))
theorem JM.perm {m : Mem} {hs hs' : Hp} {w : World} (h : JM m hs w) (p : hs.Perm hs') : JM m hs' w where
 mem := h.mem
 nodup := (p.map _).nodup_iff.1 h.nodup
 blk := fun x hx => h.blk x (p.mem_iff.2 hx)
 free := fun x hx => h.free x (p.mem_iff.2 hx)
theorem JM.sub {m : Mem} {hs hs' : Hp} {w : World} (h : JM m (hs ++ hs') w) : JM m hs' w where
 mem := h.mem
 nodup := by
  have := h.nodup
  simp only [Hp.bs, List.map_append] at this
  exact (List.nodup_append.1 this).2.1
 blk := fun x hx => h.blk x (List.mem_append.2 (.inr hx))
 free := fun x hx => h.free x (List.mem_append.2 (.inr hx))
theorem Hp.bs_append (a b : Hp) : Hp.bs (a ++ b) = a.bs ++ b.bs := List.map_append
theorem Frm.perm {w w1 : World} {m m1 : Mem} {b0 : List Nat} {hs hs' : Hp} (h : Frm w w1 m m1 b0 hs.bs) (p : hs.Perm hs') : Frm w w1 m m1 b0 hs'.bs :=
 h.sub fun b hb => ((p.map _).mem_iff).2 hb
section
variable {c : Ctx} {Γ Γ' : Env} {H H' : List Ent} {a : Act} {w : World}
theorem St.pick {e : Ent} (h : St c Γ H a w) (k : Pick H e H') : St c Γ (e :: H') a w := by
 obtain ⟨hd, hn, m, hs, hg, hG, he, hsat, hf⟩ := h
 obtain ⟨h1, h2, hp, p, q⟩ := hsat.pick k
 exact ⟨hd, hn, m, h1 ++ h2, hg.perm hp, hG, he, ⟨h1, h2, rfl, p, q⟩, hf.perm hp⟩
theorem St.drop {e : Ent} (h : St c Γ (e :: H) a w) : St c Γ H a w := by
 obtain ⟨hd, hn, m, hs, hg, hG, he, ⟨h1, h2, rfl, _, q⟩, hf⟩ := h
 exact ⟨hd, hn, m, h2, hg.sub, hG, he, q, hf.sub fun b hb => by rw [Hp.bs_append]; exact List.mem_append.2 (.inr hb)⟩
inductive Keep : List Ent → List Ent → Prop
 | nil {H : List Ent} : Keep H []
 | cons {H H1 H2 : List Ent} {e : Ent} : Pick H e H1 → Keep H1 H2 → Keep H (e :: H2)
theorem Sat.keep {H H' : List Ent} (k : Keep H H') : ∀ {m : Mem} {hs : Hp}, Sat H m hs → ∃ r hs', hs.Perm (r ++ hs') ∧ Sat H' m hs' := by
 induction k with
 | nil => intro m hs _; exact ⟨hs, [], by simp, rfl⟩
 | cons k _ ih =>
  intro m hs h
  obtain ⟨h1, h2, hp, p, q⟩ := h.pick k
  obtain ⟨r, h3, hp2, q3⟩ := ih q
  refine ⟨r, h1 ++ h3, hp.trans ((List.Perm.append_left h1 hp2).trans ?_), h1, h3, rfl, p, q3⟩
  rw [← List.append_assoc, ← List.append_assoc]
  exact List.Perm.append_right h3 List.perm_append_comm
theorem St.keep (h : St c Γ H a w) (k : Keep H H') : St c Γ H' a w := by
 obtain ⟨hd, hn, m, hs, hg, hG, he, hsat, hf⟩ := h
 obtain ⟨r, hs', hp, q⟩ := hsat.keep k
 have hg' := hg.perm hp
 exact ⟨hd, hn, m, hs', hg'.sub, hG, he, q, (hf.perm hp).sub fun b hb => by rw [Hp.bs_append]; exact List.mem_append.2 (.inr hb)⟩
def Imp (Γ : Env) (t : Nat) (s : Slot) : Prop := ∀ m a, Y1 Γ m a → s.p m (a.tmps.getD t undef)
inductive SubE : Env → Env → Prop
 | nil {Γ : Env} : SubE Γ []
 | cons {Γ Γ' : Env} {t : Nat} {s : Slot} : Imp Γ t s → SubE Γ Γ' → SubE Γ ((t, s) :: Γ')
theorem Imp.of_lk {Γ : Env} {t : Nat} {s : Slot} (h : lk Γ t = some s) : Imp Γ t s := fun _ _ e => e t s h
theorem SubE.ok {Γ Γ' : Env} (h : SubE Γ Γ') : ∀ {m : Mem} {a : Act}, Y1 Γ m a → Y1 Γ' m a := by
 induction h with
 | nil => intro m a _ t s e; simp [lk] at e
 | @cons Γ' t s h1 _ ih =>
  intro m a he t' s' e
  by_cases ht : t = t'
  ·subst ht
   rw [Zs] at e
   cases e
   exact h1 m a he
  ·rw [Yw ht] at e
   exact ih he t' s' e
theorem St.sub (h : St c Γ H a w) (k : SubE Γ Γ') : St c Γ' H a w := by
 obtain ⟨hd, hn, m, hs, hg, hG, he, hsat, hf⟩ := h
 exact ⟨hd, hn, m, hs, hg, hG, k.ok he, hsat, hf⟩
end
def WB (P : Program) (k : Value → World → Prop) : Result Next → Prop
 | .ok (.value v) w => k v w
 | .ok .skip w => k undef w
 | .ok (.enter f args) w => Calls P f args w fun e w' => ∃ v, e = .returned v ∧ k v w'
 | .ok (.round l f tmps assign body) w => RoundIn Fence.wide 0 P l f tmps assign body w fun e w' => ∃ v, e = .returned v ∧ k v w'
 | _ => False
theorem WB.noDefer {P : Program} {o : Oper} {ρ : Operand → Value} {w : World} {k : Value → World → Prop} (h : WB P k ((execOp ρ o).run P w)) : ∀ c, o.op ≠ .defer c := by
 intro c hc
 unfold execOp at h
 rw [hc] at h
 simp only [Sem.run_bind] at h
 generalize (resolve ρ c _).run P w = r at h
 cases r with
 | halt x w' => exact h.elim
 | ok d w' => exact h.elim
theorem WB.wp {P : Program} {r : Option Nat} {o : Oper} {a : Act} {w : World} {k : Value → World → Prop} {K : Act → World → Prop} {Q : Exit → Act → World → Prop}
  (h : WB P k ((execOp a.eval o).run P w)) (hk : ∀ v w', k v w' → K (a.put o.dst v) w') : o.wpIn (fen r) 0 P a w K Q := by
 refine ⟨fun f _ => Qaa r f, ?_⟩
 rw [Oper.semAt_eq _ _ _ h.noDefer]
 generalize (execOp a.eval o).run P w = r at h
 cases r with
 | halt x w' => exact h.elim
 | ok n w' =>
  cases n with
  | value v => exact hk _ _ h
  | skip => exact hk _ _ h
  | enter f args =>
   refine ⟨Qdw _, Qbu.2 (Calls.mono h ?_)⟩
   rintro e w'' ⟨v, rfl, hv⟩
   exact hk _ _ hv
  | round l f tmps assign body =>
   refine ⟨Qdw _, RoundIn.mono h ?_⟩
   rintro e w'' ⟨v, rfl, hv⟩
   exact hk _ _ hv
  | _ => exact h.elim
theorem WB.mono {P : Program} {k k' : Value → World → Prop} {r : Result Next} (h : WB P k r) (hk : ∀ v w, k v w → k' v w) : WB P k' r := by
 cases r with
 | halt x w' => exact h.elim
 | ok n w' =>
  cases n with
  | value v => exact hk _ _ h
  | skip => exact hk _ _ h
  | enter f args =>
   refine Calls.mono h ?_
   rintro e w'' ⟨v, rfl, hv⟩
   exact ⟨v, rfl, hk _ _ hv⟩
  | round l f tmps assign body =>
   refine RoundIn.mono h ?_
   rintro e w'' ⟨v, rfl, hv⟩
   exact ⟨v, rfl, hk _ _ hv⟩
  | _ => exact h.elim
def Opd (Γ : Env) (m : Mem) (a : Act) : Operand → Prop
 | .tmp t => ∀ s, lk Γ t = some s → s.p m (a.tmps.getD t undef)
 | _ => True
def QdF (o : Oper) (Γ : Env) (m : Mem) (a : Act) : Prop := ∀ x ∈ o.op.operands, Opd Γ m a x
theorem Y1.opd {Γ : Env} {m : Mem} {a : Act} (h : Y1 Γ m a) (x : Operand) : Opd Γ m a x := by
 cases x <;> simp only [Opd]
 exact fun s e => h _ s e
def Has (Γ : Env) (x : Operand) (s : Slot) : Prop := ∀ m a, Opd Γ m a x → s.p m (a.eval x)
theorem Zu {Γ : Env} {t : Nat} {s : Slot} (h : lk Γ t = some s) : Has Γ (.tmp t) s := fun _ _ k => k s h
def PJ (c : Ctx) (o : Oper) (Γ : Env) (H : List Ent) (s : Slot) : Prop :=
 ∀ m hs a w, JM m hs w → c.G.p m → Sat H m hs → QdF o Γ m a →
  WB c.P (fun v w' => ∃ m', JM m' hs w' ∧ s.p m' v ∧ Frm w w' m m' [] []) ((execOp a.eval o).run c.P w)
def Jc (c : Ctx) (full : Array Oper) (l : List Oper) (Γ : Env) (H : List Ent) (K : Act → World → Prop) : Prop :=
 ∀ a w Q, (∀ a' w', K a' w' → Q .normal a' w') → St c Γ H a w → wpListIn (fen c.ro) 0 c.P full Q l a w
theorem Sat.frm {H : List Ent} {m m' : Mem} {hs : Hp} {w w' : World} (h : Sat H m hs) (f : Frm w w' m m' [] []) : Sat H m' hs := h.mono f.le
theorem Frm.keepOwn {w w' : World} {m m' : Mem} (f : Frm w w' m m' [] []) (bs : List Nat) : Frm w w' m m' bs bs := by simpa using f.wide bs
section
variable {c : Ctx} {full : Array Oper} {l : List Oper} {Γ Γ' : Env} {H H' : List Ent} {K : Act → World → Prop}
theorem Qaf {o : Oper} {d : Nat} {s : Slot} (h : PJ c o Γ H s) (hg : o.guard = none) (hd : o.dst = some d) (hN : Nat.blt d c.N = true)
  (k : Jc c full l ((d, s) :: Γ) H K) : Jc c full (o :: l) Γ H K := by
 intro a w Q hQ ⟨hdf, hn, m, hs, hgd, hG, he, hsat, hf⟩
 refine wpListIn_plain hg fun K' hK' => ?_
 refine WB.wp (h m hs a w hgd hG hsat fun x _ => he.opd x) ?_
 rintro v w' ⟨m', hgd', hv, hfr⟩
 refine hK' _ _ (k _ w' Q hQ ⟨by rw [Yh]; exact hdf.step hgd (hfr.keepOwn _), by rw [Xr]; exact hn, m', hs, hgd', c.G.mono hfr.le hG, ?_, hsat.frm hfr, hf.trans (hfr.keepOwn _)⟩)
 rw [hd]
 exact (he.mono hfr.le).put (by rw [hn]; simpa [Nat.blt_eq] using hN) hv
theorem Qjw (h : Keep H H') (k : Jc c full l Γ H' K) : Jc c full l Γ H K := fun a w Q hQ hst => k a w Q hQ (hst.keep h)
theorem Qly (h : SubE Γ Γ') (k : Jc c full l Γ' H K) : Jc c full l Γ H K := fun a w Q hQ hst => k a w Q hQ (hst.sub h)
theorem QbI {o : Oper} {j : Nat} {want : Bool} {t : Nat} {s : Slot} (hg : o.guard = some (j, want)) (hj : (full[j]?).bind (·.dst) = some t) (hN : Nat.blt t c.N = true)
  (hl : lk Γ t = some s) (hb : ∀ m v, s.p m v → v = .bool want)
  (k : Jc c full ({ o with guard := none } :: l) Γ H K) : Jc c full (o :: l) Γ H K := by
 intro a w Q hQ hst
 have hst' := hst
 obtain ⟨hdf, hn, m, hs, hgd, hG, he, hsat, hf⟩ := hst
 have hv := hb m _ (he t s hl)
 have hlt : t < a.tmps.size := by rw [hn]; simpa [Nat.blt_eq] using hN
 have hy : yielded full a.tmps j = some want := by
  simp only [yielded, hj, Option.bind_some, Array.getElem?_eq_getElem hlt]
  simp only [Array.getD, hlt, dite_true] at hv
  simp only [Array.getInternal_eq_getElem] at hv
  rw [hv]
 have hk := k a w Q hQ hst'
 have hw : Region.wanted o (yielded full a.tmps) = true := by simp [Region.wanted, hg, hy]
 have hw' : Region.wanted { o with guard := none } (yielded full a.tmps) = true := rfl
 simp only [wpListIn, hw, hw', if_true] at hk ⊢
 exact hk
end
section
variable {c : Ctx} {Γ Γ' : Env} {H H' : List Ent} {a : Act} {w : World} {Q : Exit → Act → World → Prop}
end
def UA (m : Mem) : List Slot → List Value → Prop
 | [], vs => vs = []
 | s :: ss, vs => ∃ v vs', vs = v :: vs' ∧ s.p m v ∧ UA m ss vs'
theorem UA.mono {m m' : Mem} (hm : Mle m m') : ∀ {ss : List Slot} {vs : List Value}, UA m ss vs → UA m' ss vs
 | [], _, h => h
 | s :: _, _, ⟨v, vs', e, p, q⟩ => ⟨v, vs', e, s.mono hm p, UA.mono hm q⟩
def Ctr (P : Program) (G : GP) (f : FuncId) (A : List Slot) (E : List Ent) {ι : Type} (ρ : ι → Slot) (ε : ι → List Ent) : Prop :=
 ∀ m w vs hs, JM m hs w → G.p m → UA m A vs → Sat E m hs →
  Calls P f vs.toArray w fun e w' => ∃ v m' hs' i, e = .returned v ∧ JM m' hs' w' ∧ (ρ i).p m' v ∧ Sat (ε i) m' hs' ∧ Frm w w' m m' hs.bs hs'.bs
def QaZ (c : Ctx) {ι : Type} (ρ : ι → Slot) (ε : ι → List Ent) (e : Ending) (w' : World) : Prop :=
 ∃ v m' hs' i, e = .returned v ∧ JM m' hs' w' ∧ (ρ i).p m' v ∧ Sat (ε i) m' hs' ∧ Frm c.w0 w' c.m0 m' c.b0 hs'.bs
def Bo : Nat → List Slot → Env
 | _, [] => []
 | k, s :: ss => (k, s) :: Bo (k + 1) ss
theorem QaC {m : Mem} : ∀ (ss : List Slot) (k : Nat) (vs pre post : List Value), UA m ss vs → pre.length = k →
  ∀ t s, lk (Bo k ss) t = some s → s.p m ((pre ++ vs ++ post).toArray.getD t undef)
 | [], _, _, _, _, _, _, _, _, e => by simp [Bo, lk] at e
 | s0 :: ss, k, vs, pre, post, ⟨v, vs', hvs, p, q⟩, hk, t, s, e => by
  subst hvs
  by_cases ht : k = t
  ·subst ht
   simp only [Bo, Zs] at e
   cases e
   have : (pre ++ (v :: vs') ++ post).toArray.getD k undef = v := by
    simp [Array.getD, ← hk]
   rw [this]; exact p
  ·simp only [Bo] at e
   rw [Yw ht] at e
   have := QaC ss (k + 1) vs' (pre ++ [v]) post q (by simp [hk]) t s e
   simpa using this
theorem UA.length {m : Mem} : ∀ {ss : List Slot} {vs : List Value}, UA m ss vs → vs.length = ss.length
 | [], _, h => by cases h; rfl
 | _ :: _, _, ⟨_, _, e, _, q⟩ => by subst e; simp [q.length]
theorem Qfz {P : Program} {G : GP} {f : FuncId} {fn : Func} {code : Code} {N : Nat} {A : List Slot} {E : List Ent} {ι : Type} {ρ : ι → Slot} {ε : ι → List Ent}
  (hf : P.funcs[f]? = some fn) (hb : fn.body = some code) (hN : fn.ntmps = N) (hA : Nat.ble A.length N = true)
  (h : ∀ c : Ctx, c.P = P → c.N = N → c.G = G → c.ro = none → c.mm = false → ∀ a w, St c (Bo 0 A) E a w → code.wpIn (fen none) 0 P (bodyPost P fn (QaZ c ρ ε)) a w) : Ctr P G f A E ρ ε := by
 intro m w vs hs hg hG hvs hsat
 have hst : St ⟨P, N, G, m, w, hs.bs, none, false⟩ (Bo 0 A) E { tmps := vs.toArray ++ Array.replicate (fn.ntmps - vs.toArray.size) undef, defers := [] } w := by
  refine ⟨rfl, ?_, m, hs, hg, hG, ?_, hsat, Frm.refl _ _ _⟩
  ·have := hvs.length
   simp only [Array.size_append, List.size_toArray, Array.size_replicate, hN, this]
   have := Nat.ble_eq ▸ hA
   omega
  ·intro t s e
   have := QaC A 0 vs [] (List.replicate (fn.ntmps - vs.toArray.size) undef) hvs rfl t s e
   have e2 : (([] : List Value) ++ vs ++ List.replicate (fn.ntmps - vs.toArray.size) undef).toArray = vs.toArray ++ Array.replicate (fn.ntmps - vs.toArray.size) undef := by simp
   rw [e2] at this
   exact this
 have hw := h ⟨P, N, G, m, w, hs.bs, none, false⟩ rfl rfl rfl rfl rfl _ w hst
 have hc := calls_of_wp (R := QaZ ⟨P, N, G, m, w, hs.bs, none, false⟩ ρ ε) hf hb (wpIn_wide.1 hw)
 refine hc.mono ?_
 intro e w' hp
 exact hp
end Go.Sl
namespace Go.Sl
structure Rep (α : Type) where
 n : Nat
 ag : Bool
 rel : Mem → List Value → α → Prop
 mono : ∀ {m m' : Mem} {cs : List Value} {x : α}, Mle m m' → rel m cs x → rel m' cs x
 len : ∀ {m : Mem} {cs : List Value} {x : α}, rel m cs x → cs.length = n
 cell : ∀ {m : Mem} {cs : List Value} {x : α}, rel m cs x → ∀ v ∈ cs, v.oneCell' = true
 one : ag = false → n = 1
section
variable {α β : Type}
def Rep.is (R : Rep α) (m : Mem) (v : Value) (x : α) : Prop :=
 match R.ag with
 | true => ∃ cs : List Value, v = .agg cs.toArray ∧ R.rel m cs x
 | false => R.rel m [v] x
theorem Rep.is_mono (R : Rep α) {m m' : Mem} {v : Value} {x : α} (hm : Mle m m') (h : R.is m v x) : R.is m' v x := by
 unfold Rep.is at *
 cases hb : R.ag with
 | true => simp only [hb] at h ⊢; obtain ⟨cs, e, hr⟩ := h; exact ⟨cs, e, R.mono hm hr⟩
 | false => simp only [hb] at h ⊢; exact R.mono hm h
def Rep.slot (R : Rep α) (x : α) : Slot := ⟨fun m v => R.is m v x, fun hm h => R.is_mono hm h⟩
theorem KF {v : Value} (h : v.oneCell' = true) : v.cells = #[v] := by
 cases v <;> first | rfl | (simp [Value.oneCell'] at h)
theorem Rep.is_cells {R : Rep α} {m : Mem} {v : Value} {x : α} (h : R.is m v x) : ∃ cs : List Value, v.cells = cs.toArray ∧ R.rel m cs x := by
 unfold Rep.is at h
 cases hb : R.ag with
 | true => simp only [hb] at h; obtain ⟨cs, rfl, hr⟩ := h; exact ⟨cs, rfl, hr⟩
 | false => simp only [hb] at h; exact ⟨[v], KF (R.cell h v (by simp)), h⟩
def ZV (ag : Bool) (cs : List Value) : Value :=
 match ag with
 | true => .agg cs.toArray
 | false => cs.headD undef
theorem Rep.is_of {R : Rep α} {m : Mem} {cs : List Value} {x : α} (h : R.rel m cs x) : R.is m (ZV R.ag cs) x := by
 unfold Rep.is ZV
 cases hb : R.ag with
 | true => exact ⟨cs, rfl, h⟩
 | false =>
  have := R.len h
  rw [R.one hb] at this
  match cs, this with
  | [v], _ => exact h
def JP (R : Rep α) (m : Mem) : List Value → List α → Prop
 | cs, [] => cs = []
 | cs, x :: xs => ∃ c cs', cs = c ++ cs' ∧ R.rel m c x ∧ JP R m cs' xs
theorem JP.mono {R : Rep α} {m m' : Mem} (hm : Mle m m') : ∀ {xs : List α} {cs : List Value}, JP R m cs xs → JP R m' cs xs
 | [], _, h => h
 | _ :: _, _, ⟨c, cs', e, p, q⟩ => ⟨c, cs', e, R.mono hm p, JP.mono hm q⟩
theorem JP.length {R : Rep α} {m : Mem} : ∀ {xs : List α} {cs : List Value}, JP R m cs xs → cs.length = xs.length * R.n
 | [], _, h => by simp [JP] at h; simp [h]
 | _ :: xs, _, ⟨c, cs', e, p, q⟩ => by
  rw [e, List.length_append, R.len p, JP.length q, List.length_cons, Nat.add_mul, Nat.one_mul, Nat.add_comm]
theorem JP.cell {R : Rep α} {m : Mem} : ∀ {xs : List α} {cs : List Value}, JP R m cs xs → ∀ v ∈ cs, v.oneCell' = true
 | [], _, h, v, hv => by simp [JP] at h; simp [h] at hv
 | _ :: xs, _, ⟨c, cs', e, p, q⟩, v, hv => by
  rw [e, List.mem_append] at hv
  exact hv.elim (R.cell p v) (JP.cell q v)
theorem JP.append {R : Rep α} {m : Mem} : ∀ {xs ys : List α} {cs ds : List Value}, JP R m cs xs → JP R m ds ys → JP R m (cs ++ ds) (xs ++ ys)
 | [], _, _, _, h, k => by simp [JP] at h; simpa [h] using k
 | _ :: _, _, _, _, ⟨c, cs', e, p, q⟩, k => ⟨c, cs' ++ _, by rw [e, List.append_assoc], p, JP.append q k⟩
theorem JP.split {R : Rep α} {m : Mem} : ∀ {xs ys : List α} {cs : List Value}, JP R m cs (xs ++ ys) →
  JP R m (cs.take (xs.length * R.n)) xs ∧ JP R m (cs.drop (xs.length * R.n)) ys
 | [], ys, cs, h => by simpa [JP] using h
 | x :: xs, ys, cs, ⟨c, cs', e, p, q⟩ => by
  have ⟨h1, h2⟩ := JP.split q
  have hl := R.len p
  have e1 : (x :: xs).length * R.n = c.length + xs.length * R.n := by rw [List.length_cons, Nat.add_mul, hl]; omega
  rw [e1, e]
  refine ⟨⟨c, cs'.take (xs.length * R.n), ?_, p, h1⟩, ?_⟩
  ·rw [List.take_append]; simp [List.take_of_length_le]
  ·rw [List.drop_append]; simpa [List.drop_of_length_le] using h2
theorem JP.single {R : Rep α} {m : Mem} {x : α} {cs : List Value} (h : R.rel m cs x) : JP R m cs [x] := ⟨cs, [], by simp, h, rfl⟩
theorem JP.of_single {R : Rep α} {m : Mem} {x : α} {cs : List Value} (h : JP R m cs [x]) : R.rel m cs x := by
 obtain ⟨c, cs', e, p, q⟩ := h
 simp [JP] at q
 subst q
 simpa [e] using p
theorem Qfh {xs : List α} {i : Nat} (h : i < xs.length) : xs = xs.take i ++ ([xs[i]] ++ xs.drop (i + 1)) := by
 rw [List.singleton_append, ← List.drop_eq_getElem_cons h, List.take_append_drop]
theorem JP.get {R : Rep α} {m : Mem} {xs : List α} {cs : List Value} {i : Nat} (h : JP R m cs xs) (hi : i < xs.length) :
  R.rel m ((cs.drop (i * R.n)).take R.n) xs[i] := by
 rw [Qfh hi] at h
 have ⟨_, h2⟩ := JP.split h
 have ⟨h3, _⟩ := JP.split h2
 have := h3.of_single
 simpa [Nat.min_eq_left (Nat.le_of_lt hi)] using this
theorem JP.set {R : Rep α} {m : Mem} {xs : List α} {cs ds : List Value} {i : Nat} {y : α} (h : JP R m cs xs) (hi : i < xs.length) (hy : R.rel m ds y) :
  JP R m (cs.take (i * R.n) ++ ds ++ cs.drop (i * R.n + R.n)) (xs.set i y) := by
 have e : xs.set i y = xs.take i ++ ([y] ++ xs.drop (i + 1)) := by
  rw [List.set_eq_take_append_cons_drop, if_pos hi, List.singleton_append]
 rw [e, List.append_assoc]
 rw [Qfh hi] at h
 have ⟨h1, h2⟩ := JP.split h
 have ⟨_, h4⟩ := JP.split h2
 have el : (List.take i xs).length = i := by simp [Nat.min_eq_left (Nat.le_of_lt hi)]
 rw [el] at h1 h4
 refine h1.append (JP.append (JP.single hy) ?_)
 simpa [List.drop_drop] using h4
theorem JP.take {R : Rep α} {m : Mem} {xs : List α} {cs : List Value} (k : Nat) (h : JP R m cs xs) : JP R m (cs.take (k * R.n)) (xs.take k) := by
 by_cases hk : k ≤ xs.length
 ·have h' := h
  rw [← List.take_append_drop k xs] at h'
  have := (JP.split h').1
  simpa [Nat.min_eq_left hk] using this
 ·have hx : xs.take k = xs := List.take_of_length_le (by omega)
  have hl := h.length
  have : cs.take (k * R.n) = cs := List.take_of_length_le (by rw [hl]; exact Nat.mul_le_mul_right _ (by omega))
  rw [hx, this]; exact h
theorem JP.drop {R : Rep α} {m : Mem} {xs : List α} {cs : List Value} (k : Nat) (h : JP R m cs xs) : JP R m (cs.drop (k * R.n)) (xs.drop k) := by
 by_cases hk : k ≤ xs.length
 ·have h' := h
  rw [← List.take_append_drop k xs] at h'
  have := (JP.split h').2
  simpa [Nat.min_eq_left hk] using this
 ·have hx : xs.drop k = [] := List.drop_of_length_le (by omega)
  have hl := h.length
  have : cs.drop (k * R.n) = [] := List.drop_of_length_le (by rw [hl]; exact Nat.mul_le_mul_right _ (by omega))
  rw [hx, this]; rfl
def At (m : Mem) (b o : Nat) (cs : List Value) : Prop := ∀ j v, cs[j]? = some v → m b (o + j) = some v
theorem At.mono {m m' : Mem} {b o : Nat} {cs : List Value} (hm : Mle m m') (h : At m b o cs) : At m' b o cs := fun j v e => hm _ _ _ (h j v e)
theorem At.mid {m : Mem} {b o : Nat} {cs : List Value} (k n : Nat) (h : At m b o cs) : At m b (o + k) ((cs.drop k).take n) := by
 intro j v e
 rw [List.getElem?_take] at e
 split at e
 ·rw [List.getElem?_drop] at e
  have := h (k + j) v e
  rwa [← Nat.add_assoc] at this
 ·cases e
def i64 : Rep Int where
 n := 1
 ag := false
 rel := fun _ cs x => cs = [.int .i64 x]
 mono := fun _ h => h
 len := fun h => by subst h; rfl
 cell := fun h v hv => by subst h; simp at hv; subst hv; rfl
 one := fun _ => rfl
def un (k : IntKind) (w : Nat) : Rep (BitVec w) where
 n := 1
 ag := false
 rel := fun _ cs x => cs = [.int k (x.toNat : Int)]
 mono := fun _ h => h
 len := fun h => by subst h; rfl
 cell := fun h v hv => by subst h; simp at hv; subst hv; rfl
 one := fun _ => rfl
abbrev u8 : Rep (BitVec 8) := un .u8 8
abbrev u32 : Rep (BitVec 32) := un .u32 32
abbrev u64 : Rep (BitVec 64) := un .u64 64
def bl : Rep Bool where
 n := 1
 ag := false
 rel := fun _ cs x => cs = [.bool x]
 mono := fun _ h => h
 len := fun h => by subst h; rfl
 cell := fun h v hv => by subst h; simp at hv; subst hv; rfl
 one := fun _ => rfl
def exv (v : Value) : Rep Unit where
 n := 1
 ag := false
 rel := fun _ cs _ => cs = [v] ∧ v.oneCell' = true
 mono := fun _ h => h
 len := fun h => by rw [h.1]; rfl
 cell := fun h' v' hv => by rw [h'.1] at hv; simp at hv; subst hv; exact h'.2
 one := fun _ => rfl
def vec (n : Nat) (R : Rep α) : Rep (Vector α n) where
 n := n * R.n
 ag := true
 rel := fun m cs x => JP R m cs x.toList
 mono := fun hm h => h.mono hm
 len := fun h => by rw [h.length, Vector.length_toList]
 cell := fun h => h.cell
 one := fun h => by cases h
def prod (R : Rep α) (S : Rep β) : Rep (α × β) where
 n := R.n + S.n
 ag := true
 rel := fun m cs x => ∃ c d, cs = c ++ d ∧ R.rel m c x.1 ∧ S.rel m d x.2
 mono := fun hm ⟨c, d, e, p, q⟩ => ⟨c, d, e, R.mono hm p, S.mono hm q⟩
 len := fun ⟨c, d, e, p, q⟩ => by rw [e, List.length_append, R.len p, S.len q]
 cell := fun ⟨c, d, e, p, q⟩ v hv => by rw [e, List.mem_append] at hv; exact hv.elim (R.cell p v) (S.cell q v)
 one := fun h => by cases h
def only (R : Rep α) : Rep α := { R with ag := true, one := fun h => by cases h }
def sl (R : Rep α) : Rep (List α) where
 n := 1
 ag := false
 rel := fun m cs l => ∃ a cap, cs = [.slice a l.length cap] ∧ l.length ≤ cap ∧ (l = [] ∨ ∃ b o row, a = some ⟨b, o, none⟩ ∧ JP R m row l ∧ At m b o row)
 mono := fun hm ⟨a, cap, e, hc, h⟩ => ⟨a, cap, e, hc, h.imp id fun ⟨b, o, row, e', p, q⟩ => ⟨b, o, row, e', p.mono hm, q.mono hm⟩⟩
 len := fun ⟨a, cap, e, _, _⟩ => by rw [e]; rfl
 cell := fun ⟨a, cap, e, _, _⟩ v hv => by rw [e] at hv; simp at hv; subst hv; rfl
 one := fun _ => rfl
def ptr (R : Rep α) : Rep (Option α) where
 n := 1
 ag := false
 rel := fun m cs x => match x with
  | none => cs = [.pointer none]
  | some y => ∃ b o ds, cs = [.pointer (some ⟨b, o, none⟩)] ∧ R.rel m ds y ∧ At m b o ds
 mono := fun {m m' cs x} hm h => by
  cases x with
  | none => exact h
  | some y => obtain ⟨b, o, ds, e, p, q⟩ := h; exact ⟨b, o, ds, e, R.mono hm p, q.mono hm⟩
 len := fun {m cs x} h => by
  cases x with
  | none => rw [h]; rfl
  | some y => obtain ⟨b, o, ds, e, p, q⟩ := h; rw [e]; rfl
 cell := fun {m cs x} h v hv => by
  cases x with
  | none => rw [h] at hv; simp at hv; subst hv; rfl
  | some y => obtain ⟨b, o, ds, e, p, q⟩ := h; rw [e] at hv; simp at hv; subst hv; rfl
 one := fun _ => rfl
def val (v : Value) : Slot := ⟨fun _ u => u = v, fun _ h => h⟩
def any : Slot := ⟨fun _ _ => True, fun _ _ => trivial⟩
def Qt (R : Rep α) (x : α) : Slot where
 p := fun m v => ∃ b o ds, v = .pointer (some ⟨b, o, none⟩) ∧ R.rel m ds x ∧ At m b o ds
 mono := fun hm ⟨b, o, ds, e, p, q⟩ => ⟨b, o, ds, e, R.mono hm p, q.mono hm⟩
def tup (ss : List Slot) : Slot where
 p := fun m v => ∃ vs : List Value, v = .tuple vs.toArray ∧ UA m ss vs
 mono := fun hm ⟨vs, e, h⟩ => ⟨vs, e, h.mono hm⟩
abbrev ov (v : Value) : Slot := (exv v).slot ()
theorem Uv {v u : Value} {m : Mem} : (ov v).p m u ↔ u = v ∧ v.oneCell' = true := by simp [Rep.slot, Rep.is, exv]
theorem U5 {ad : Option Addr} {n cap : Nat} {m : Mem} : (ov (.slice ad n cap)).p m (.slice ad n cap) := Uv.2 ⟨rfl, rfl⟩
def Slot.flat (s : Slot) : Prop := ∀ m m' v, s.p m v → s.p m' v
def Rep.flat (R : Rep α) : Prop := ∀ m m' cs x, R.rel m cs x → R.rel m' cs x
theorem Rep.flat_slot {R : Rep α} (h : R.flat) (x : α) : (R.slot x).flat := by
 intro m m' v hv
 simp only [Rep.slot, Rep.is] at *
 cases hb : R.ag with
 | true => simp only [hb] at hv ⊢; obtain ⟨cs, e, hr⟩ := hv; exact ⟨cs, e, h _ _ _ _ hr⟩
 | false => simp only [hb] at hv ⊢; exact h _ _ _ _ hv
theorem QaO : i64.flat := fun _ _ _ _ h => h
theorem V9 (k : IntKind) (w : Nat) : (un k w).flat := fun _ _ _ _ h => h
theorem UU : bl.flat := fun _ _ _ _ h => h
theorem JP.flat {R : Rep α} (h : R.flat) {m m' : Mem} : ∀ {xs : List α} {cs : List Value}, JP R m cs xs → JP R m' cs xs
 | [], _, k => k
 | _ :: _, _, ⟨c, cs', e, p, q⟩ => ⟨c, cs', e, h _ _ _ _ p, JP.flat h q⟩
theorem X9 {R : Rep α} (n : Nat) (h : R.flat) : (vec n R).flat := fun _ _ _ _ k => k.flat h
theorem Qjr (v : Value) : (exv v).flat := fun _ _ _ _ h => h
theorem UA.flat {m m' : Mem} : ∀ {ss : List Slot} {vs : List Value}, (∀ s ∈ ss, s.flat) → UA m ss vs → UA m' ss vs
 | [], _, _, h => h
 | s :: _, _, hs, ⟨v, vs', e, p, q⟩ => ⟨v, vs', e, hs s (by simp) _ _ _ p, UA.flat (fun s h => hs s (by simp [h])) q⟩
theorem QcX {ss : List Slot} (h : ∀ s ∈ ss, s.flat) : (tup ss).flat := fun _ _ _ ⟨vs, e, k⟩ => ⟨vs, e, k.flat h⟩
structure Path (R : Rep α) (off : Nat) (S : Rep β) (get : α → β) (set : α → β → α) : Prop where
 fits : off + S.n ≤ R.n
 get_ok : ∀ {m : Mem} {cs : List Value} {x : α}, R.rel m cs x → S.rel m ((cs.drop off).take S.n) (get x)
 set_ok : ∀ {m : Mem} {cs ds : List Value} {x : α} {y : β}, R.rel m cs x → S.rel m ds y → R.rel m (cs.take off ++ ds ++ cs.drop (off + S.n)) (set x y)
theorem Path.all (R : Rep α) : Path R 0 R (fun x => x) (fun _ y => y) where
 fits := by simp
 get_ok := fun {m cs x} h => by
  have := R.len h
  simpa [List.take_of_length_le (Nat.le_of_eq this)] using h
 set_ok := fun {m cs ds x y} h k => by
  have := R.len h
  simpa [List.drop_of_length_le (Nat.le_of_eq this)] using k
theorem Path.fst (R : Rep α) (S : Rep β) : Path (prod R S) 0 R (fun x => x.1) (fun x y => (y, x.2)) where
 fits := by simp [prod]
 get_ok := fun {m cs x} ⟨c, d, e, p, q⟩ => by
  have := R.len p
  subst e
  simpa [List.take_append, List.take_of_length_le (Nat.le_of_eq this), this] using p
 set_ok := fun {m cs ds x y} ⟨c, d, e, p, q⟩ k => by
  have := R.len p
  subst e
  refine ⟨ds, d, ?_, k, q⟩
  simp [List.drop_append, ← this]
theorem Path.snd (R : Rep α) (S : Rep β) : Path (prod R S) R.n S (fun x => x.2) (fun x y => (x.1, y)) where
 fits := by simp [prod]
 get_ok := fun {m cs x} ⟨c, d, e, p, q⟩ => by
  have h1 := R.len p
  have h2 := S.len q
  subst e
  simpa [List.drop_append, ← h1, List.take_of_length_le (Nat.le_of_eq h2)] using q
 set_ok := fun {m cs ds x y} ⟨c, d, e, p, q⟩ k => by
  have h1 := R.len p
  have h2 := S.len q
  subst e
  refine ⟨c, ds, ?_, p, k⟩
  rw [List.take_append, List.drop_append]
  simp [← h1, ← h2, List.drop_of_length_le]
theorem Path.at (n : Nat) (R : Rep α) (i : Nat) (hi : i < n) : Path (vec n R) (i * R.n) R (fun x => x[i]) (fun x y => x.set i y) where
 fits := by
  show i * R.n + R.n ≤ n * R.n
  calc i * R.n + R.n = (i + 1) * R.n := by rw [Nat.add_mul, Nat.one_mul]
   _ ≤ n * R.n := Nat.mul_le_mul_right _ hi
 get_ok := fun {m cs x} h => by
  have := JP.get h (i := i) (by simpa using hi)
  simpa using this
 set_ok := fun {m cs ds x y} h k => by
  have := JP.set (i := i) h (by simpa using hi) k
  show JP R m _ (x.set i y).toList
  simpa [Vector.toList_set] using this
theorem Path.then {γ : Type} {R : Rep α} {S : Rep β} {T : Rep γ} {o1 o2 : Nat} {g1 : α → β} {s1 : α → β → α} {g2 : β → γ} {s2 : β → γ → β}
  (h : Path R o1 S g1 s1) (k : Path S o2 T g2 s2) : Path R (o1 + o2) T (fun x => g2 (g1 x)) (fun x z => s1 x (s2 (g1 x) z)) where
 fits := by have := h.fits; have := k.fits; omega
 get_ok := fun {m cs x} hr => by
  have := k.get_ok (h.get_ok hr)
  rw [List.drop_take, List.drop_drop, List.take_take] at this
  have hk := k.fits
  rwa [Nat.min_eq_left (by omega)] at this
 set_ok := fun {m cs ds x z} hr hz => by
  have h1 := k.set_ok (h.get_ok hr) hz
  have h2 := h.set_ok hr h1
  have hl := R.len hr
  have hf := h.fits
  have kf := k.fits
  have dl := T.len hz
  have e : cs.take o1 ++ (((cs.drop o1).take S.n).take o2 ++ ds ++ ((cs.drop o1).take S.n).drop (o2 + T.n)) ++ cs.drop (o1 + S.n) = cs.take (o1 + o2) ++ ds ++ cs.drop (o1 + o2 + T.n) := by
   rw [List.take_take, Nat.min_eq_left (by omega), List.take_add]
   have e2 : ((cs.drop o1).take S.n).drop (o2 + T.n) ++ cs.drop (o1 + S.n) = cs.drop (o1 + o2 + T.n) := by
    rw [List.drop_take, List.drop_drop]
    have : cs.drop (o1 + S.n) = (cs.drop (o1 + (o2 + T.n))).drop (S.n - (o2 + T.n)) := by rw [List.drop_drop]; congr 1; omega
    rw [this, List.take_append_drop]
    congr 1; omega
   simp only [List.append_assoc] at *
   rw [e2]
  rw [e] at h2
  exact h2
def box (b : Nat) (T : TypeId) (R : Rep α) (x : α) : Ent where
 p := fun m hs => ∃ cs, hs = [(b, T, cs)] ∧ R.rel m cs x
 mono := fun hm ⟨cs, e, h⟩ => ⟨cs, e, R.mono hm h⟩
def own (T : TypeId) (R : Rep α) (v : Value) (l : List α) : Ent where
 p := fun m hs => (l = [] ∧ hs = [] ∧ ∃ a, v = .slice a 0 0) ∨
  ∃ b cap row spare, v = .slice (some ⟨b, 0, none⟩) l.length cap ∧ hs = [(b, T, row ++ spare)] ∧ JP R m row l ∧ l.length ≤ cap ∧ (row ++ spare).length = cap * R.n
 mono := fun hm h => h.imp id fun ⟨b, cap, row, spare, e, e', p, q⟩ => ⟨b, cap, row, spare, e, e', p.mono hm, q⟩
theorem own.one {T : TypeId} {R : Rep α} {v : Value} {l : List α} {m : Mem} {hs : Hp} (h : (own T R v l).p m hs) : v.oneCell' = true := by
 rcases h with ⟨rfl, _, a, rfl⟩ | ⟨b, cap, row, spare, rfl, _⟩ <;> rfl
theorem own.shape {T : TypeId} {R : Rep α} {v : Value} {l : List α} {m : Mem} {hs : Hp} (h : (own T R v l).p m hs) : ∃ a cap, v = .slice a l.length cap ∧ l.length ≤ cap := by
 rcases h with ⟨rfl, _, a, rfl⟩ | ⟨b, cap, row, spare, rfl, _, _, hc, _⟩
 ·exact ⟨a, 0, rfl, Nat.le_refl _⟩
 ·exact ⟨_, cap, rfl, hc⟩
end
end Go.Sl
