import Derived.Test.YtheldkljmefbaaaGreatDoorG1
import Derived.WalkKit
import Derived.RangeFuncKeeps
import Derived.OrdersIn
import Derived.LoopNIn
import Derived.DefersIn
set_option linter.unusedSimpArgs false
set_option linter.unusedVariables false
set_option maxRecDepth 20000
namespace Go.Sl.Pu
open Go.Sl Go.Sl.M
attribute [local irreducible] sha w64 QdK und U4 ndh Qca val hat
theorem Qi9 (a b : List (BitVec 8)) (ha : a.length ≤ 4294967296) : Yw a b = some (decide (a = b)) := by
 unfold Yw
 by_cases hl : a.length = b.length
 ·rw [QU (by simp [hl])]
  have h1 := Qlx (f := fun (s : Int) => Zq a b s) a b hl (by omega) (fun i h1 h2 => by
   simp only [Zq]
   rw [QI (by rw [decide_eq_true_eq]; omega), Qc (Jm rfl h1), Qc (Jm rfl h2), Ji (by omega) (by omega)]
   by_cases he : a[i] = b[i]
   ·rw [QU (by simp [he]), if_pos he]
   ·rw [QI (by simp [he]), if_neg he]) (by
   simp only [Zq]
   rw [QU (by rw [decide_eq_true_eq]; omega)])
  rw [Qc h1]
  by_cases hab : a = b
  ·rw [if_pos hab, decide_eq_true hab]
  ·rw [if_neg hab, decide_eq_false hab]
 ·rw [QI (by simp; omega), decide_eq_false (fun h => hl (by rw [h]))]
def n4 (b : List (BitVec 8)) (i : Nat) : Nat := (val ((b.drop i).take 4)).toNat
theorem Ql6 (b : List (BitVec 8)) (i : Nat) : n4 b i < 4294967296 := by
 have := QiP ((b.drop i).take 4) 4 (by simp; omega) (by omega)
 unfold n4
 have h32 : (2 : Nat) ^ (8 * 4) = 4294967296 := by decide
 omega
theorem Qfq (b : List (BitVec 8)) (i : Nat) : (((val ((b.drop i).take 4)).setWidth 32).toNat : Int) = (n4 b i : Int) := by
 have := Ql6 b i
 unfold n4 at this ⊢
 rw [BitVec.toNat_setWidth, Nat.mod_eq_of_lt (by omega)]
theorem U6 (b : List (BitVec 8)) (i : Nat) (h : i + 4 ≤ b.length) : Q9 (b.drop i, false) = some ((b.drop (i + 4), false), (val ((b.drop i).take 4)).setWidth 32) := by
 rw [Qhj _ (by rw [List.length_drop]; omega), List.drop_drop]
theorem VL (b : List (BitVec 8)) (i n : Nat) (h : i + n ≤ b.length) : QN (b.drop i, false) (n : Int) = some ((b.drop (i + n), false), (b.drop i).take n) := by
 rw [Qbs _ n (by rw [List.length_drop]; omega), List.drop_drop]
def QaK (b : List (BitVec 8)) (p h : Nat) : List Qa := (List.range h).map fun i => hat b (p + 32 * i)
theorem Qiz (b : List (BitVec 8)) (p h : Nat) : QaK b p (h + 1) = QaK b p h ++ [hat b (p + 32 * h)] := by simp [QaK, List.range_succ]
theorem Qf0 (b : List (BitVec 8)) (p h : Nat) : (QaK b p h).length = h := by simp [QaK]
theorem Qgr {h k : Nat} (hh : IsH h) (hk : JT k) (b : List (BitVec 8)) (hl : b.length ≠ 8 + JO k + 32 * h) : KI b (h : Int) (k : Int) = some ((0, [], []), false) := by
 unfold KI
 rw [Qc (Qbb hh hk), QI (by
  simp only [Bool.not_eq_true', decide_eq_false_iff_not]
  omega), Option.bind_some]
theorem QhJ {h k : Nat} (hh : IsH h) (hk : JT k) (b : List (BitVec 8)) (hl : b.length = 8 + JO k + 32 * h) :
  KI b (h : Int) (k : Int) = some (((n4 b 0 : Int), (b.drop 4).take (JO k), QaK b (8 + JO k) h), decide (n4 b (4 + JO k) = h ∧ n4 b 0 < KK h ∧ n4 ((b.drop 4).take (JO k)) 0 = k)) := by
 unfold KI
 have hhl := Wq hh
 have hsz : JO k ≤ 100000 ∧ 36 ≤ JO k := by have := Kb hk; unfold JO; omega
 rw [Qc (Qbb hh hk), QU (by
  simp only [Bool.not_eq_true', decide_eq_false_iff_not, Decidable.not_not]
  omega)]
 have r1 := U6 b 0 (by omega)
 have r2 := VL b 4 (JO k) (by omega)
 have r3 := U6 b (4 + JO k) (by omega)
 rw [show (0 : Nat) + 4 = 4 from rfl] at r1
 rw [show 4 + JO k + 4 = 8 + JO k by omega] at r3
 rw [Qc (qz b (by omega))]
 simp only []
 rw [show Q9 (b, false) = _ from r1, Option.bind_some]
 simp only []
 rw [Qc (QeI hk), Qc r2]
 simp only []
 rw [Qc r3]
 simp only []
 have hloop := JD (f := fun (s : Int × (List (BitVec 8)) × Bool × (List Qa)) => X5 (h : Int) s.1 s.2.1 s.2.2.1 s.2.2.2) (fun i (_ : Unit) => ((i : Int), b.drop (8 + JO k + 32 * i), false, QaK b (8 + JO k) i)) (fun _ s => s) 0 h (fun i s h1 h2 => by
  simp only [X5]
  have r4 : QN (b.drop (8 + JO k + 32 * i), false) (32 : Int) = _ := VL b (8 + JO k + 32 * i) 32 (by omega)
  rw [QI (by rw [decide_eq_true_eq]; omega), Qc r4]
  simp only []
  rw [Qc (QiD b (8 + JO k + 32 * i) (by omega)), QI (by rw [Qf0]; unfold AP; simp only [List.length_singleton]; omega), Ji (n := (i : Int) + 1) (by omega) (by omega), Qiz]
  rfl) (fun s => by
  simp only [X5]
  rw [QU (by rw [decide_eq_true_eq]; omega)]) FU () (by omega) (J4 (by omega))
 have hloop' : Q3 (fun (s : Int × (List (BitVec 8)) × Bool × (List Qa)) => X5 (h : Int) s.1 s.2.1 s.2.2.1 s.2.2.2) FU ((0 : Int), b.drop (8 + JO k), false, ([] : List Qa)) = some ((h : Int), b.drop (8 + JO k + 32 * h), false, QaK b (8 + JO k) h) := hloop
 rw [Qc hloop']
 simp only []
 have hd : Vk (b.drop (8 + JO k + 32 * h), false) = some true := by
  unfold Vk Zp ZA
  rw [Option.bind_some, Option.bind_some, QI (by rfl), Option.bind_some, decide_eq_true (by rw [List.length_drop]; omega), Option.bind_some]
 rw [Qc hd, QI rfl]
 have e1 : (((val (List.take 4 (List.drop (4 + JO k) b))).setWidth 32).toNat : Int) = (n4 b (4 + JO k) : Int) := Qfq b _
 have e2 : (((val (List.take 4 (List.drop 0 b))).setWidth 32).toNat : Int) = (n4 b 0 : Int) := Qfq b 0
 rw [e1, e2, Option.bind_some]
 have hq : (n4 ((b.drop 4).take (JO k)) 0 : Int) = (((val (List.take 4 (List.drop 0 ((b.drop 4).take (JO k))))).setWidth 32).toNat : Int) := (Qfq _ 0).symm
 have hol : ((b.drop 4).take (JO k)).length = JO k := by rw [List.length_take, List.length_drop]; omega
 have r5 := U6 ((b.drop 4).take (JO k)) 0 (by omega)
 by_cases c1 : n4 b (4 + JO k) = h
 ·rw [QI (by rw [decide_eq_true_eq, c1]), QI (by omega), Option.bind_some, qL hh]
  by_cases c2 : n4 b 0 < KK h
  ·rw [QI (by rw [decide_eq_true_eq]; omega), Qc (qz _ (by omega))]
   simp only []
   rw [show Q9 ((b.drop 4).take (JO k), false) = _ from r5, Option.bind_some, Option.bind_some]
   simp only []
   rw [← hq]
   refine congrArg some (Prod.ext rfl ?_)
   simp only [decide_eq_decide]
   constructor
   ·intro hc; exact ⟨c1, c2, by omega⟩
   ·intro hc; have := hc.2.2; omega
  ·rw [QU (by rw [decide_eq_true_eq]; omega), Option.bind_some]
   refine congrArg some (Prod.ext rfl ?_)
   simp only []
   rw [decide_eq_false (fun hc => c2 hc.2.1)]
 ·rw [QU (by rw [decide_eq_true_eq]; omega), Option.bind_some, QU (by decide), Option.bind_some]
  refine congrArg some (Prod.ext rfl ?_)
  simp only []
  rw [decide_eq_false (fun hc => c1 hc.1)]
def Qby (id : QL) : Nat → Qa → List Qa → Qa
 | _, h, [] => h
 | r, h, x :: l => Qby id (r / 2) (if r % 2 = 1 then ndh id (r / 2) 33667 (x.toList ++ h.toList) else ndh id (r / 2) 33667 (h.toList ++ x.toList)) l
theorem QgK (id : QL) (P : List Qa) (hP : P.length ≤ 1000) : ∀ (l : List Qa) (i r fuel : Nat) (h : Qa), P.drop i = l → i + l.length = P.length → r ≤ 1000000 → l.length < fuel →
  ∃ u v, Q3 (fun (s : Int × Int × Qa) => Vr P id s.1 s.2.1 s.2.2) fuel ((r : Int), (i : Int), h) = some (u, v, Qby id r h l) := by
 intro l
 induction l with
 | nil =>
  intro i r fuel h h1 hi hr hfu
  obtain ⟨fuel, rfl⟩ : ∃ m, fuel = m + 1 := ⟨fuel - 1, by omega⟩
  simp only [List.length_nil] at hi
  exact ⟨(r : Int), (i : Int), YM (by
   simp only [Vr]
   rw [QU (by rw [decide_eq_true_eq]; omega)]; rfl)⟩
 | cons x l ih =>
  intro i r fuel h h1 hi hr hfu
  obtain ⟨fuel, rfl⟩ : ∃ m, fuel = m + 1 := ⟨fuel - 1, by omega⟩
  simp only [List.length_cons] at hi hfu
  have hi1 : i < P.length := by omega
  rw [List.drop_eq_getElem_cons hi1] at h1
  injection h1 with h1 h1'
  have hd : Int.tdiv (r : Int) 2 = ((r / 2 : Nat) : Int) := (Int.ofNat_tdiv r 2).symm
  have hm : Int.tmod (r : Int) 2 = ((r % 2 : Nat) : Int) := (Int.ofNat_tmod r 2).symm
  obtain ⟨u, v, huv⟩ := ih (i + 1) (r / 2) fuel (if r % 2 = 1 then ndh id (r / 2) 33667 (x.toList ++ h.toList) else ndh id (r / 2) 33667 (h.toList ++ x.toList)) h1' (by omega) (by omega) (by omega)
  refine ⟨u, v, ?_⟩
  rw [Yx (s' := (((r / 2 : Nat) : Int), ((i + 1 : Nat) : Int), if r % 2 = 1 then ndh id (r / 2) 33667 (x.toList ++ h.toList) else ndh id (r / 2) 33667 (h.toList ++ x.toList))) (by
   simp only [Vr]
   rw [QI (by rw [decide_eq_true_eq]; omega), Qc (Jm rfl hi1), h1, hm, hd]
   clear hm hd huv
   rw [Ji (n := ((r / 2 : Nat) : Int)) (by omega) (by omega), Ji (n := (i : Int) + 1) (by omega) (by omega)]
   by_cases c : r % 2 = 1
   ·rw [QI (by rw [decide_eq_true_eq]; omega), Option.bind_some, Qc (QbH id (r / 2) _ _), if_pos c]; rfl
   ·rw [QU (by rw [decide_eq_true_eq]; omega), Option.bind_some, Qc (QbH id (r / 2) _ _), if_neg c]; rfl), huv]
  rfl
theorem QiX (id : QL) (r : Nat) (hr : r ≤ 1000000) (h : Qa) (P : List Qa) (hP : P.length ≤ 1000) : W5 id (r : Int) h P = some (Qby id r h P) := by
 unfold W5
 obtain ⟨u, v, huv⟩ := QgK id P hP P 0 r FU h rfl (by omega) hr (J4 (by omega))
 have huv' : Q3 (fun (s : Int × Int × Qa) => Vr P id s.1 s.2.1 s.2.2) FU ((r : Int), (0 : Int), h) = _ := huv
 rw [Qc huv']
def Qcd (b : List (BitVec 8)) (off : Nat) : QL := Vector.ofFn fun j : Fin 16 => b.getD (off + j.val) 0#8
theorem QbR (b : List (BitVec 8)) (off : Nat) (h : off + 16 ≤ b.length) : (Qcd b off).toList = (b.drop off).take 16 := by
 apply List.ext_getElem?
 intro i
 rw [List.getElem?_take]
 by_cases hi : i < 16
 ·rw [if_pos hi, List.getElem?_drop]
  have h2 : off + i < b.length := by omega
  have : (Qcd b off).toList[i]? = some (b.getD (off + i) 0#8) := by
   unfold Qcd
   rw [List.getElem?_eq_getElem (by simp; exact hi)]
   simp
  rw [this]; simp [h2]
 ·rw [if_neg hi, List.getElem?_eq_none (by simp; omega)]
theorem QeT (b : List (BitVec 8)) (off : Nat) (h : off + 16 ≤ b.length) : Wy 16 ((b.drop off).take 16) = some (Qcd b off) := by
 have hl : 16 ≤ ((b.drop off).take 16).length := by simp; omega
 unfold Wy
 rw [dif_pos hl]
 refine congrArg some (Vector.toList_inj.1 ?_)
 rw [Bx, QbR b off h, List.take_take, Nat.min_self]
def Qk0 (h k : Nat) (id : QL) (msg sig : List (BitVec 8)) : Qa :=
 Qby id (KK h + n4 sig 0) (ndh id (KK h + n4 sig 0) 33410 (Qca k id (BitVec.ofNat 32 (n4 sig 0)) msg ((sig.drop 4).take (JO k))).toList) (QaK sig (8 + JO k) h)
def isT (h k : Nat) (sig : List (BitVec 8)) : Prop := n4 sig (4 + JO k) = h ∧ n4 sig 0 < KK h ∧ n4 ((sig.drop 4).take (JO k)) 0 = k
instance (h k : Nat) (sig : List (BitVec 8)) : Decidable (isT h k sig) := by unfold isT; infer_instance
def vrf (p msg sig : List (BitVec 8)) : Bool :=
 decide (p.length = 56 ∧ (1 ≤ n4 p 0 ∧ n4 p 0 ≤ 4) ∧ (1 ≤ n4 p 4 ∧ n4 p 4 ≤ 4) ∧ sig.length = 8 + JO (n4 p 4) + 32 * n4 p 0 ∧ isT (n4 p 0) (n4 p 4) sig ∧ (Qk0 (n4 p 0) (n4 p 4) (Qcd p 8) msg sig).toList = (p.drop 24).take 32)
theorem Qan (p msg sig : List (BitVec 8)) (hp : p.length ≤ 4000000000) (hm : msg.length ≤ 2000000000) (hs : sig.length ≤ 2000000000) : Ur p msg sig = some (vrf p msg sig) := by
 unfold Ur
 by_cases hl : p.length = 56
 ·rw [QU (by simp [hl]), Qc (qz p hp)]
  have r1 := U6 p 0 (by omega)
  have r2 := U6 p 4 (by omega)
  have r3 : QN (p.drop 8, false) (16 : Int) = _ := VL p 8 16 (by omega)
  have r4 : QN (p.drop 24, false) (32 : Int) = _ := VL p 24 32 (by omega)
  simp only []
  rw [show Q9 (p, false) = _ from r1, Option.bind_some]
  simp only []
  rw [show Q9 (p.drop (0 + 4), false) = _ from r2, Option.bind_some]
  simp only []
  rw [show QN (p.drop (4 + 4), false) (16 : Int) = _ from r3, Option.bind_some]
  simp only []
  rw [Qc (QeT p 8 (by omega)), show QN (p.drop (8 + 16), false) (32 : Int) = _ from r4, Option.bind_some]
  simp only []
  have e1 : (((val (List.take 4 (List.drop 0 p))).setWidth 32).toNat : Int) = (n4 p 0 : Int) := Qfq p 0
  have e2 : (((val (List.take 4 (List.drop 4 p))).setWidth 32).toNat : Int) = (n4 p 4 : Int) := Qfq p 4
  rw [e1, e2]
  by_cases hb : (1 ≤ n4 p 0 ∧ n4 p 0 ≤ 4) ∧ (1 ≤ n4 p 4 ∧ n4 p 4 ≤ 4)
  ·have hh : IsH (n4 p 0) := by unfold IsH; omega
   have hk : JT (n4 p 4) := by unfold JT; omega
   rw [Qc (Qez hh hk), QU (by decide)]
   obtain ⟨hK1, hK2⟩ := B5 hh
   by_cases hsl : sig.length = 8 + JO (n4 p 4) + 32 * n4 p 0
   ·rw [Qc (QhJ hh hk sig hsl)]
    simp only []
    by_cases ht : isT (n4 p 0) (n4 p 4) sig
    ·have ht' := ht
     unfold isT at ht'
     have hsz : 36 ≤ JO (n4 p 4) := by unfold JO; omega
     have hol : ((sig.drop 4).take (JO (n4 p 4))).length = JO (n4 p 4) := by rw [List.length_take, List.length_drop]; omega
     have Qay : Qjt (n4 p 4) ((sig.drop 4).take (JO (n4 p 4))) := ⟨hk, hol, ht'.2.2⟩
     rw [QU (by rw [decide_eq_true ht']; decide), Uy, Qc (Qgn (Qcd p 8) _ msg _ hm Qay), QU (by simp), QI (by omega), qL hh, Option.bind_some,
      show w64 ((KK (n4 p 0) : Int) + (n4 sig 0 : Int)) = ((KK (n4 p 0) + n4 sig 0 : Nat) : Int) by rw [Ji (by omega) (by omega)]; omega, Qc (Qe8 _ _ _), Qc (QiX _ _ (by omega) _ _ (by rw [Qf0]; omega)), Qc (Qi9 _ _ (by simp))]
     refine congrArg some ?_
     unfold vrf
     simp only [decide_eq_decide]
     constructor
     ·intro hc; exact ⟨hl, hb.1, hb.2, hsl, ht, hc⟩
     ·intro hc; exact hc.2.2.2.2.2
    ·have ht' := ht
     unfold isT at ht'
     rw [QI (by rw [decide_eq_false ht']; rfl)]
     refine congrArg some ?_
     unfold vrf
     rw [decide_eq_false (fun hc => ht hc.2.2.2.2.1)]
   ·rw [Qc (Qgr hh hk sig hsl), QI (by rfl)]
    refine congrArg some ?_
    unfold vrf
    rw [decide_eq_false (fun hc => hsl hc.2.2.2.1)]
  ·rw [Qc (Qhd (by omega)), QI (by rfl)]
   refine congrArg some ?_
   unfold vrf
   rw [decide_eq_false (fun hc => hb ⟨hc.2.1, hc.2.2.1⟩)]
 ·rw [QI (by simp; omega)]
  refine congrArg some ?_
  unfold vrf
  rw [decide_eq_false (fun hc => hl hc.1)]
end Go.Sl.Pu
set_option maxRecDepth 20000
namespace Go.Sl.Pu
open Go.Sl Go.Sl.M
attribute [local irreducible] sha w64 QdK und U4 ndh Qca val hat
theorem Qbj (A B : List (BitVec 8)) (x i : Nat) (hx : x < 4294967296) (hA : A.length = i) : n4 (A ++ (be (BitVec.ofNat 32 x) 4 ++ B)) i = x := by
 unfold n4
 rw [← hA, List.drop_left, List.take_append_of_le_length (by rw [JG]; exact Nat.le_refl _), List.take_of_length_le (by rw [JG]; exact Nat.le_refl _), Qfm, BitVec.toNat_setWidth, BitVec.toNat_ofNat]
 omega
theorem QkE (A B : List (BitVec 8)) (x : Qa) (i : Nat) (hA : A.length = i) : hat (A ++ (x.toList ++ B)) i = x := by
 apply Vector.toList_inj.1
 rw [Qas _ _ (by rw [List.length_append, List.length_append, Vector.length_toList]; omega), ← hA, List.drop_left, List.take_left' (by simp)]
theorem QiZ (A B : List (BitVec 8)) (x : QL) (i : Nat) (hA : A.length = i) : Qcd (A ++ (x.toList ++ B)) i = x := by
 apply Vector.toList_inj.1
 rw [QbR _ _ (by rw [List.length_append, List.length_append, Vector.length_toList]; omega), ← hA, List.drop_left, List.take_left' (by simp)]
theorem Qiy (b : List (BitVec 8)) (p h : Nat) : QaK b p (h + 1) = hat b p :: QaK b (p + 32) h := by
 unfold QaK
 rw [List.range_succ_eq_map, List.map_cons, List.map_map]
 refine congrArg (List.cons (hat b p)) ?_
 apply List.map_congr_left
 intro i _
 show hat b (p + 32 * (i + 1)) = hat b (p + 32 + 32 * i)
 rw [show p + 32 * (i + 1) = p + 32 + 32 * i by omega]
theorem Qfj : ∀ (l : List Qa) (A : List (BitVec 8)) (p : Nat), A.length = p → QaK (A ++ QcT l) p l.length = l
 | [], A, p, h => rfl
 | x :: l, A, p, h => by
  rw [List.length_cons, Qiy]
  have e : QcT (x :: l) = x.toList ++ QcT l := rfl
  rw [e, QkE A _ x p h, ← List.append_assoc, Qfj l (A ++ x.toList) (p + 32) (by rw [List.length_append, Vector.length_toList, h])]
theorem QhI (k : Nat) (id : QL) (seed : Qa) (K : Nat) : ∀ (n r : Nat), r ≤ n → 0 < r → r < 2 * K → Qby id r (tv k id seed K r) (pth (tv k id seed K) r) = tv k id seed K 1 := by
 intro n
 induction n with
 | zero => intro r h1 h2; omega
 | succ n ih =>
  intro r h1 h2 h3
  by_cases hr : 1 < r
  ·rw [QcA _ hr]
   show Qby id (r / 2) (if r % 2 = 1 then _ else _) (pth (tv k id seed K) (r / 2)) = _
   have e : (if r % 2 = 1 then ndh id (r / 2) 33667 ((tv k id seed K (sib r)).toList ++ (tv k id seed K r).toList) else ndh id (r / 2) 33667 ((tv k id seed K r).toList ++ (tv k id seed K (sib r)).toList)) = tv k id seed K (r / 2) := by
    rw [QfU k id seed K (r := r / 2) (by omega) (by omega)]
    by_cases c : r % 2 = 1
    ·rw [if_pos c, show sib r = 2 * (r / 2) by unfold sib; omega]
     conv => lhs; rw [show r = 2 * (r / 2) + 1 by omega]
     rw [show (2 * (r / 2) + 1) / 2 = r / 2 by omega]
    ·rw [if_neg c, show sib r = 2 * (r / 2) + 1 by unfold sib; omega]
     conv => lhs; rw [show r = 2 * (r / 2) by omega]
     rw [show (2 * (r / 2)) / 2 = r / 2 by omega]
   rw [e]
   exact ih (r / 2) (by omega) (by omega) (by omega)
  ·have : r = 1 := by omega
   subst this
   rw [Qeh _ hr]; rfl
theorem QcX {h k : Nat} (hh : IsH h) (hk : JT k) (id : QL) (seed : Qa) : n4 (K7 h k id seed) 0 = h ∧ n4 (K7 h k id seed) 4 = k ∧ Qcd (K7 h k id seed) 8 = id ∧ ((K7 h k id seed).drop 24).take 32 = (tv k id seed (KK h) 1).toList := by
 have h1 := Wq hh
 have h2 := QgO hk
 refine ⟨?_, ?_, ?_, ?_⟩
 ·have := Qbj [] ((be (BitVec.ofNat 32 k) 4 ++ id.toList) ++ (tv k id seed (KK h) 1).toList) h 0 (by omega) rfl
  unfold K7
  simpa [List.append_assoc] using this
 ·have := Qbj (be (BitVec.ofNat 32 h) 4) (id.toList ++ (tv k id seed (KK h) 1).toList) k 4 (by omega) (JG _ _)
  unfold K7
  simpa [List.append_assoc] using this
 ·have := QiZ (be (BitVec.ofNat 32 h) 4 ++ be (BitVec.ofNat 32 k) 4) ((tv k id seed (KK h) 1).toList) id 8 (by rw [List.length_append, JG, JG])
  unfold K7
  simpa [List.append_assoc] using this
 ·unfold K7
  rw [List.drop_left' (by rw [List.length_append, List.length_append, JG, JG, Vector.length_toList]), List.take_of_length_le (by simp)]
theorem QdR {h k : Nat} (hh : IsH h) (hk : JT k) (id : QL) (seed : Qa) (q : Nat) (hq : q < KK h) (msg : List (BitVec 8)) : vrf (K7 h k id seed) msg (WD h k id seed q msg) = true := by
 obtain ⟨p1, p2, p3, p4⟩ := QcX hh hk id seed
 obtain ⟨hK1, hK2⟩ := B5 hh
 have h1 := Wq hh
 have h2 := QgO hk
 have hl := Wv (k := k) id seed q hq msg
 have sl := B0 (k := k) id (BitVec.ofNat 32 q) seed msg
 have e0 : n4 (WD h k id seed q msg) 0 = q := by
  have := Qbj [] ((U4 k id (BitVec.ofNat 32 q) seed msg ++ be (BitVec.ofNat 32 h) 4) ++ QcT (pth (tv k id seed (KK h)) (KK h + q))) q 0 (by omega) rfl
  unfold WD
  simpa [List.append_assoc] using this
 have e1 : ((WD h k id seed q msg).drop 4).take (JO k) = U4 k id (BitVec.ofNat 32 q) seed msg := by
  unfold WD
  rw [List.append_assoc, List.append_assoc, List.drop_left' (JG _ _), List.take_left' sl]
 have e2 : n4 (WD h k id seed q msg) (4 + JO k) = h := by
  have := Qbj (be (BitVec.ofNat 32 q) 4 ++ U4 k id (BitVec.ofNat 32 q) seed msg) (QcT (pth (tv k id seed (KK h)) (KK h + q))) h (4 + JO k) (by omega) (by rw [List.length_append, JG, sl])
  unfold WD
  rw [List.append_assoc]
  exact this
 have e3 : n4 (U4 k id (BitVec.ofNat 32 q) seed msg) 0 = k := by
  have := (QiT hk id (BitVec.ofNat 32 q) seed msg).2.2
  unfold n4
  rw [List.drop_zero]
  exact this
 have pl : (pth (tv k id seed (KK h)) (KK h + q)).length = h := QhE _ h _ (by unfold KK; omega) (by rw [Nat.pow_succ]; unfold KK at hq ⊢; omega)
 have e4 : QaK (WD h k id seed q msg) (8 + JO k) h = pth (tv k id seed (KK h)) (KK h + q) := by
  have := Qfj (pth (tv k id seed (KK h)) (KK h + q)) ((be (BitVec.ofNat 32 q) 4 ++ U4 k id (BitVec.ofNat 32 q) seed msg) ++ be (BitVec.ofNat 32 h) 4) (8 + JO k) (by rw [List.length_append, List.length_append, JG, JG, sl]; omega)
  rw [pl] at this
  exact this
 unfold vrf
 rw [p1, p2, p3, p4]
 rw [decide_eq_true]
 refine ⟨Ba _ _ _ _, by omega, by omega, hl, ⟨e2, by rw [e0]; exact hq, by rw [e1]; exact e3⟩, ?_⟩
 refine congrArg Vector.toList ?_
 unfold Qk0
 rw [e0, e1, e4, Qgq hk]
 have el : ndh id (KK h + q) 33410 (QdK k id (BitVec.ofNat 32 q) seed).toList = tv k id seed (KK h) (KK h + q) := by
  rw [Qg0 _ _ _ _ (Nat.le_add_right _ _)]
  unfold lfv
  rw [Nat.add_sub_cancel_left]
 rw [el]
 exact QhI k id seed (KK h) (KK h + q) (KK h + q) (Nat.le_refl _) (by omega) (by omega)
end Go.Sl.Pu
set_option maxRecDepth 20000
namespace Go.Sl.Pu
open Go.Sl Go.Sl.M
theorem QeE {n : Nat} (h : n ≤ 4294967296) : n ≤ AP := h
theorem QiG (n : Nat) (h : n ≤ 4294967296) : JU (n : Int) = some [] := by
 unfold JU
 rw [QU (by rw [decide_eq_true_eq]; omega), show w64 ((0 : Int) - 0) = 0 from rfl, Ji (n := (n : Int) - 0) (by omega) (by omega), Option.bind_some]
 by_cases h0 : 0 < n
 ·rw [QI (by rw [decide_eq_true_eq]; omega), QI ⟨by omega, by omega⟩, QI ⟨by omega, by omega⟩]; simp
 ·rw [QU (by rw [decide_eq_true_eq]; omega)]
theorem QcH (L : List (List (BitVec 8))) (h : L.flatten.length ≤ 4000000000) (hL : L.length ≤ 1000) : JR L = some L.flatten := by
 unfold JR
 have hpre : ∀ i, i ≤ L.length → (L.take i).flatten.length ≤ 4000000000 := fun i hi => by
  have : L.flatten.length = (L.take i).flatten.length + (L.drop i).flatten.length := by
   rw [← List.length_append, ← List.flatten_append, List.take_append_drop]
  omega
 have hsucc : ∀ i (hi : i < L.length), (L.take (i + 1)).flatten = (L.take i).flatten ++ L[i] := fun i hi => by
  rw [List.take_succ_eq_append_getElem hi, List.flatten_append]; simp
 have h1 := JD (f := fun (s : Int × Int) => Jl L s.1 s.2) (fun i (_ : Unit) => ((((L.take i).flatten.length : Nat) : Int), (i : Int))) (fun _ s => s) 0 L.length (fun i s _ hi => by
  simp only [Jl]
  have h2 := hpre (i + 1) hi
  have h3 : (L.take (i + 1)).flatten.length = (L.take i).flatten.length + L[i].length := by rw [hsucc i hi, List.length_append]
  rw [QI (by rw [decide_eq_true_eq]; omega), Qc (Jm rfl hi), Ji (n := (((L.take i).flatten.length : Nat) : Int) + (L[i].length : Int)) (by omega) (by omega), QU (by rw [decide_eq_true_eq]; omega), Ji (n := (i : Int) + 1) (by omega) (by omega), h3]
  rfl) (fun s => by
  simp only [Jl]
  rw [QU (by rw [decide_eq_true_eq]; omega)]) FU () (by omega) (J4 (by omega))
 have h1' : Q3 (fun (s : Int × Int) => Jl L s.1 s.2) FU ((0 : Int), (0 : Int)) = some ((((L.take L.length).flatten.length : Nat) : Int), (L.length : Int)) := h1
 rw [Qc h1', Qc (QiG _ (by have := hpre L.length (Nat.le_refl _); omega))]
 have h4 := JD (f := fun (s : Int × (List (BitVec 8))) => Jk L s.1 s.2) (fun i (_ : Unit) => ((i : Int), (L.take i).flatten)) (fun _ s => s) 0 L.length (fun i s _ hi => by
  simp only [Jk]
  have h2 := hpre (i + 1) hi
  have h3 : (L.take (i + 1)).flatten.length = (L.take i).flatten.length + L[i].length := by rw [hsucc i hi, List.length_append]
  rw [QI (by rw [decide_eq_true_eq]; omega), Qc (Jm rfl hi), QI (QeE (by omega)), Ji (n := (i : Int) + 1) (by omega) (by omega), hsucc i hi]
  rfl) (fun s => by
  simp only [Jk]
  rw [QU (by rw [decide_eq_true_eq]; omega)]) FU () (by omega) (J4 (by omega))
 have h4' : Q3 (fun (s : Int × (List (BitVec 8))) => Jk L s.1 s.2) FU ((0 : Int), ([] : List (BitVec 8))) = some ((L.length : Int), (L.take L.length).flatten) := h4
 rw [Qc h4', List.take_length]
end Go.Sl.Pu
set_option maxRecDepth 20000
namespace Go.Sl.Pu
open Go.Sl Go.Sl.M
attribute [local irreducible] sha w64 QdK und U4 ndh Qca val hat Qab K7 WD Qcd BY vrf
def tID (seed : Qa) : QL := Qcd (Qab 105#8 [seed.toList]).toList 0
def WA (seed : Qa) : Qa := Qab 115#8 [seed.toList]
def bID (seed : Qa) (i : Nat) : QL := Qcd (Qab 105#8 [seed.toList, be (BitVec.ofNat 32 i) 4]).toList 0
def V4 (seed : Qa) (i : Nat) : Qa := Qab 115#8 [seed.toList, be (BitVec.ofNat 32 i) 4]
theorem QlS (x : Qa) : Zk x.toList 0 (16 : Int) = some ((x.toList.drop 0).take 16) := by
 rw [Zt (lo := (0 : Int)) (hi := (16 : Int)) (a := 0) (b := 16) rfl rfl (by omega) (by simp), List.drop_zero, List.drop_zero]
theorem Qh4 (seed : Qa) : KO seed [] = some (tID seed, WA seed) := by
 unfold KO
 rw [QU (by simp), Option.bind_some, Qc (qs _ _ (by simp [VT])), Qc (QlS _), Qc (QeT _ 0 (by simp)), Qc (qs _ _ (by simp [VT]))]
 rfl
theorem Qj8 : ∀ i : Fin 16, ([BitVec.ofInt 8 (U9 (i.val : Int) (24 : Int)), BitVec.ofInt 8 (U9 (i.val : Int) (16 : Int)), BitVec.ofInt 8 (U9 (i.val : Int) (8 : Int)), BitVec.ofInt 8 (i.val : Int)] : List (BitVec 8)) = be (BitVec.ofNat 32 i.val) 4 := by with_unfolding_all decide
theorem QhG (seed : Qa) (i : Nat) (hi : i < 16) : KO seed [BitVec.ofInt 8 (U9 (i : Int) (24 : Int)), BitVec.ofInt 8 (U9 (i : Int) (16 : Int)), BitVec.ofInt 8 (U9 (i : Int) (8 : Int)), BitVec.ofInt 8 (i : Int)] = some (bID seed i, V4 seed i) := by
 rw [Qj8 ⟨i, hi⟩]
 unfold KO
 simp only []
 rw [QI (by rw [decide_eq_true_eq, JG]; omega), QI (QeE (by simp)), Option.bind_some]
 simp only [List.singleton_append]
 rw [Qc (qs _ _ (by simp [VT, JG])), Qc (QlS _), Qc (QeT _ 0 (by simp)), Qc (qs _ _ (by simp [VT, JG]))]
 rfl
abbrev Sg : Type := Int × Int × Qa × (Option QF) × (Option QF) × Int
def IsS (t b k : Nat) (seed : Qa) (s : Sg) : Prop :=
 s.1 = (b : Int) ∧ s.2.1 = (k : Int) ∧ s.2.2.1 = seed ∧ s.2.2.2.1 = trS t k (tID seed) (WA seed) ∧ (s.2.2.2.2.2 = -1 ∨ ∃ i : Nat, i < KK t ∧ s.2.2.2.2.2 = (i : Int) ∧ s.2.2.2.2.1 = trS b k (bID seed i) (V4 seed i))
theorem QjS {t b k : Nat} (ht : IsH t) (hb : IsH b) (hk : JT k) (seed : Qa) : ∃ s : Sg, qv (t : Int) (b : Int) (k : Int) seed = some (some s, 0) ∧ IsS t b k seed s := by
 refine ⟨((b : Int), (k : Int), seed, trS t k (tID seed) (WA seed), none, -1), ?_, rfl, rfl, rfl, rfl, .inl rfl⟩
 unfold qv
 rw [Qc (Qbb hb hk), QU (by rw [decide_eq_true_eq]; omega), Qc (Qh4 seed), Qc (Qg6 ht hk _ _), QU (by simp), Option.bind_some]
theorem Qi0 {t b k : Nat} (ht : IsH t) (hb : IsH b) {seed : Qa} {s : Sg} (hs : IsS t b k seed s) : Vx s = some ((KK t * KK b : Nat) : Int) := by
 unfold Vx
 obtain ⟨h1, h2, h3, h4, h5⟩ := hs
 have hb1 := Wq hb
 obtain ⟨hK1, hK2⟩ := B5 ht
 obtain ⟨hK3, hK4⟩ := B5 hb
 have hm : KK t * KK b ≤ 16 * 16 := Nat.mul_le_mul hK2 hK4
 rw [h4, Qc (QcJ ht _ _), h1, QI (by omega), Qfc (KK t) b (by omega) (by show KK t * KK b < _; omega)]
 rfl
def W1 (t k : Nat) (seed : Qa) : List (BitVec 8) := [0#8, 0#8, 0#8, 2#8] ++ K7 t k (tID seed) (WA seed)
theorem QcW (t k : Nat) (seed : Qa) : (W1 t k seed).length = 60 := by unfold W1; rw [List.length_append, Ba]; rfl
theorem Qdo {t b k : Nat} (ht : IsH t) {seed : Qa} {s : Sg} (hs : IsS t b k seed s) : Ya s = some (W1 t k seed) := by
 unfold Ya
 rw [hs.2.2.2.1, Qc (Qdi ht _ _), Qc (QcH _ (by simp [Ba]) (by simp))]
 simp [W1]
theorem QiR {t b k : Nat} (ht : IsH t) (hb : IsH b) (hk : JT k) {seed : Qa} {s : Sg} (hs : IsS t b k seed s) (i : Nat) (hi : i < KK t) : ∃ s' : Sg, VG s (i : Int) = some (s', trS b k (bID seed i) (V4 seed i), 0) ∧ IsS t b k seed s' := by
 obtain ⟨hK1, hK2⟩ := B5 ht
 unfold VG
 obtain ⟨s1, s2, s3, s4, s5, s6⟩ := s
 obtain ⟨h1, h2, h3, h4, h5⟩ := hs
 simp only [] at h1 h2 h3 h4 h5
 subst h1 h2 h3 h4
 by_cases he : s6 = (i : Int)
 ·rw [QI (by simpa using he)]
  rcases h5 with h5 | ⟨j, hj, h5, h6⟩
  ·exfalso; omega
  ·have : j = i := by omega
   subst this
   exact ⟨_, by simp only []; rw [h6], rfl, rfl, rfl, rfl, .inr ⟨j, hj, h5, rfl⟩⟩
 ·rw [QU (by simpa using he)]
  refine ⟨((b : Int), (k : Int), s3, trS t k (tID s3) (WA s3), trS b k (bID s3 i) (V4 s3 i), (i : Int)), ?_, rfl, rfl, rfl, rfl, .inr ⟨i, hi, rfl, rfl⟩⟩
  rw [Qc (QhG s3 i (by omega)), Qc (Qg6 hb hk _ _), QU (by simp)]
def Qay (t b k : Nat) (seed : Qa) (n : Nat) (msg : List (BitVec 8)) : List (BitVec 8) :=
 (([0#8, 0#8, 0#8, 1#8] ++ WD t k (tID seed) (WA seed) (n / KK b) (K7 b k (bID seed (n / KK b)) (V4 seed (n / KK b)))) ++ K7 b k (bID seed (n / KK b)) (V4 seed (n / KK b))) ++ WD b k (bID seed (n / KK b)) (V4 seed (n / KK b)) (n % KK b) msg
theorem Qbc {t b n : Nat} (hb : IsH b) (hn : n < KK t * KK b) : n / KK b < KK t ∧ n % KK b < KK b := by
 obtain ⟨hK3, hK4⟩ := B5 hb
 exact ⟨Nat.div_lt_of_lt_mul (by rw [Nat.mul_comm]; exact hn), Nat.mod_lt _ (by omega)⟩
theorem Qfd {t b k : Nat} (hb : IsH b) (seed : Qa) (n : Nat) (hn : n < KK t * KK b) (msg : List (BitVec 8)) : (Qay t b k seed n msg).length = 4 + (8 + JO k + 32 * t) + 56 + (8 + JO k + 32 * b) := by
 obtain ⟨d1, d2⟩ := Qbc hb hn
 unfold Qay
 rw [List.length_append, List.length_append, List.length_append, Wv _ _ _ d1, Wv _ _ _ d2, Ba]
 simp only [List.length_cons, List.length_nil]
theorem QjG {t b k : Nat} (ht : IsH t) (hb : IsH b) (hk : JT k) {seed : Qa} {s : Sg} (hs : IsS t b k seed s) (n : Nat) (hn : n < KK t * KK b) (msg : List (BitVec 8)) (hm : msg.length ≤ 2000000000) :
  ∃ s' : Sg, Vz s (n : Int) msg = some (s', Qay t b k seed n msg, 0) ∧ IsS t b k seed s' := by
 obtain ⟨d1, d2⟩ := Qbc hb hn
 obtain ⟨hK1, hK2⟩ := B5 ht
 obtain ⟨hK3, hK4⟩ := B5 hb
 have hb1 := Wq hb
 have hm2 : KK t * KK b ≤ 16 * 16 := Nat.mul_le_mul hK2 hK4
 obtain ⟨s', hs', hI⟩ := QiR ht hb hk hs (n / KK b) d1
 refine ⟨s', ?_, hI⟩
 unfold Vz
 have e1 : U9 (n : Int) (b : Int) = ((n / KK b : Nat) : Int) := Qbf n b (by omega)
 have e2 : Qfr (n : Int) (w64 (XG (1 : Int) (b : Int) - 1)) = ((n % KK b : Nat) : Int) := by
  rw [qL hb, show w64 ((KK b : Int) - 1) = ((2 ^ b - 1 : Nat) : Int) by rw [Ji (by omega) (by omega)]; show _ = ((KK b - 1 : Nat) : Int); omega]
  exact Qd3 n b (by omega) (by omega)
 have hl1 := Wv (h := t) (k := k) (tID seed) (WA seed) (n / KK b) d1 (K7 b k (bID seed (n / KK b)) (V4 seed (n / KK b)))
 have hl2 := Wv (h := b) (k := k) (bID seed (n / KK b)) (V4 seed (n / KK b)) (n % KK b) d2 msg
 have hp := Ba b k (bID seed (n / KK b)) (V4 seed (n / KK b))
 have hsz : JO k ≤ 100000 := by have := Kb hk; unfold JO; omega
 have htl := Wq ht
 rw [QU (by rw [decide_eq_true_eq]; clear e1 e2; omega), show ((s.1, s.2.1, s.2.2.1, s.2.2.2.1, s.2.2.2.2.1, s.2.2.2.2.2) : Sg) = s from rfl, Qc (Qi0 ht hb hs), Option.bind_some, QU (by rw [decide_eq_true_eq]; clear e1 e2; omega), hs.1, QI (by omega), QI (by omega), e1, e2, Option.bind_some, Qc hs', QU (by simp)]
 simp only []
 rw [Qc (Qdi hb _ _), hI.2.2.2.1, Qc (QfY ht hk _ _ _ d1 _ (by rw [hp]; omega)), QU (by simp), Qc (QfY hb hk _ _ _ d2 _ hm), QU (by simp), Qc (QcH _ (by simp only [List.flatten_cons, List.flatten_nil, List.length_append, List.length_nil, List.length_cons]; rw [hl1, hl2, hp]; clear e1 e2; omega) (by simp))]
 refine congrArg some (Prod.ext ?_ (Prod.ext ?_ rfl))
 ·simp only []
  obtain ⟨a1, a2, a3, a4, a5, a6⟩ := s'
  have h4 := hI.2.2.2.1
  simp only [] at h4 ⊢
  rw [h4]
 ·simp [Qay]
end Go.Sl.Pu
set_option maxRecDepth 20000
namespace Go.Sl.Pu
open Go.Sl Go.Sl.M
attribute [local irreducible] sha w64 QdK und U4 ndh Qca val hat Qab K7 WD Qcd BY vrf Qay W1 n4
def tN (p : List (BitVec 8)) : Nat := 8 + JO (n4 p 8) + 32 * n4 p 4
def okP (p : List (BitVec 8)) : Prop := (1 ≤ n4 p 4 ∧ n4 p 4 ≤ 4) ∧ (1 ≤ n4 p 8 ∧ n4 p 8 ≤ 4)
instance (p : List (BitVec 8)) : Decidable (okP p) := by unfold okP; infer_instance
def qT (p msg sig : List (BitVec 8)) : Bool :=
 decide (p.length = 60 ∧ n4 p 0 = 2 ∧ 4 ≤ sig.length ∧ n4 sig 0 = 1 ∧ okP p ∧ 60 + tN p ≤ sig.length ∧ vrf (p.drop 4) ((sig.drop (4 + tN p)).take 56) ((sig.drop 4).take (tN p)) = true ∧ vrf ((sig.drop (4 + tN p)).take 56) msg (sig.drop (60 + tN p)) = true)
theorem Qck (p : List (BitVec 8)) (i j : Nat) : n4 (p.drop i) j = n4 p (i + j) := by
 with_unfolding_all
 unfold n4
 rw [List.drop_drop]
theorem QlL {p msg sig : List (BitVec 8)} (h : ¬ ((1 ≤ n4 p 0 ∧ n4 p 0 ≤ 4) ∧ (1 ≤ n4 p 4 ∧ n4 p 4 ≤ 4))) : vrf p msg sig = false := by
 unfold vrf
 rw [decide_eq_false (fun hc => h ⟨hc.2.1, hc.2.2.1⟩)]
theorem Qk7 (b : List (BitVec 8)) (i c : Nat) (hc : c < 4294967296) : (decide ((val ((b.drop i).take 4)).setWidth 32 = BitVec.ofNat 32 c)) = decide (n4 b i = c) := by
 have h := Qfq b i
 simp only [decide_eq_decide]
 constructor
 ·intro hh
  rw [hh, BitVec.toNat_ofNat, Nat.mod_eq_of_lt (by omega)] at h
  omega
 ·intro hh
  apply BitVec.eq_of_toNat_eq
  rw [BitVec.toNat_ofNat, Nat.mod_eq_of_lt (by omega)]
  omega
theorem Ql2 {p : List (BitVec 8)} (h : okP p) : tN p ≤ 200000 := by
 have hk : JT (n4 p 8) := by unfold JT; have := h.2; omega
 have := Kb hk
 have := h.1
 unfold tN JO; omega
theorem QgJ (p msg sig : List (BitVec 8)) (hp : p.length ≤ 2000000000) (hm : msg.length ≤ 2000000000) (hs : sig.length ≤ 2000000000) : Wz p msg sig = some (qT p msg sig) := by
 unfold Wz
 by_cases hl : p.length = 60
 ·have r1 := U6 p 0 (by omega)
  have r2 := U6 p 4 (by omega)
  have r3 := U6 p 8 (by omega)
  rw [QU (by simp [hl]), Qc (qz p (by omega))]
  simp only []
  rw [show Q9 (p, false) = _ from r1, Option.bind_some]
  simp only []
  rw [Qk7 p 0 2 (by omega)]
  by_cases h2 : n4 p 0 = 2
  ·rw [QU (by rw [decide_eq_true h2]; decide), show Q9 (p.drop (0 + 4), false) = _ from r2, Option.bind_some]
   simp only []
   rw [show Q9 (p.drop (4 + 4), false) = _ from r3, Option.bind_some, Qc (qz sig (by omega))]
   simp only []
   have e1 : (((val (List.take 4 (List.drop 4 p))).setWidth 32).toNat : Int) = (n4 p 4 : Int) := Qfq p 4
   have e2 : (((val (List.take 4 (List.drop 8 p))).setWidth 32).toNat : Int) = (n4 p 8 : Int) := Qfq p 8
   rw [e1, e2]
   by_cases h4 : 4 ≤ sig.length
   ·have r4 := U6 sig 0 (by omega)
    rw [show Q9 (sig, false) = _ from r4, Option.bind_some]
    simp only []
    rw [Qk7 sig 0 1 (by omega)]
    by_cases h5 : n4 sig 0 = 1
    ·rw [QU (by rw [decide_eq_true h5]; decide)]
     by_cases hk : okP p
     ·have hh : IsH (n4 p 4) := by have := hk.1; unfold IsH; omega
      have hkk : JT (n4 p 8) := by have := hk.2; unfold JT; omega
      have htn := Ql2 hk
      rw [Qc (Qbb hh hkk)]
      have ht : 8 + JO (n4 p 8) + 32 * n4 p 4 = tN p := rfl
      rw [ht]
      clear ht
      by_cases h6 : 4 + tN p ≤ sig.length
      ·have r5 := VL sig 4 (tN p) h6
       rw [show QN (sig.drop (0 + 4), false) (tN p : Int) = _ from r5, Option.bind_some]
       simp only []
       by_cases h7 : 60 + tN p ≤ sig.length
       ·have r6 : QN (sig.drop (4 + tN p), false) (56 : Int) = _ := VL sig (4 + tN p) 56 (by omega)
        rw [Qc r6]
        simp only []
        have hln : (sig.drop (4 + tN p + 56)).length = sig.length - (60 + tN p) := by rw [List.length_drop]; omega
        have r7 := VL sig (4 + tN p + 56) (sig.drop (4 + tN p + 56)).length (by omega)
        have hL : ZA (sig.drop (4 + tN p + 56), false) = some ((sig.drop (4 + tN p + 56)).length : Int) := rfl
        rw [Qc hL, Qc r7]
        simp only []
        have hF : Zp (sig.drop (4 + tN p + 56 + (sig.drop (4 + tN p + 56)).length), false) = some false := rfl
        have s1 : Zk p (4 : Int) (p.length : Int) = some (p.drop 4) := by rw [Zt (lo := (4 : Int)) (a := 4) rfl rfl (by omega) (Nat.le_refl _), List.take_length]
        rw [Qc hF, QI (by rfl), Qc s1, List.take_length, show 4 + tN p + 56 = 60 + tN p by omega]
        have q1 : (p.drop 4).length ≤ 4000000000 := by rw [List.length_drop]; omega
        have q2 : ((sig.drop (4 + tN p)).take 56).length ≤ 2000000000 := by rw [List.length_take]; omega
        have q3 : ((sig.drop 4).take (tN p)).length ≤ 2000000000 := by rw [List.length_take]; omega
        have q4 : (sig.drop (60 + tN p)).length ≤ 2000000000 := by rw [List.length_drop]; omega
        have q5 : ((sig.drop (4 + tN p)).take 56).length ≤ 4000000000 := by rw [List.length_take]; omega
        rw [Qc (Qan _ _ _ q1 q2 q3), Option.bind_some]
        by_cases v1 : vrf (p.drop 4) ((sig.drop (4 + tN p)).take 56) ((sig.drop 4).take (tN p)) = true
        ·rw [QI v1, Qc (Qan _ _ _ q5 hm q4), Option.bind_some]
         refine congrArg some ?_
         unfold qT
         by_cases v2 : vrf ((sig.drop (4 + tN p)).take 56) msg (sig.drop (60 + tN p)) = true
         ·exact v2.trans (decide_eq_true ⟨hl, h2, h4, h5, hk, h7, v1, v2⟩).symm
         ·rw [decide_eq_false (fun hc => v2 hc.2.2.2.2.2.2.2)]
          simpa using v2
        ·rw [QU v1, Option.bind_some]
         refine congrArg some ?_
         unfold qT
         rw [decide_eq_false (fun hc => v1 hc.2.2.2.2.2.2.1)]
       ·have r6 : QN (sig.drop (4 + tN p), false) (56 : Int) = some ((sig.drop (4 + tN p), true), []) := BD _ _ (by right; rw [List.length_drop]; omega)
        rw [Qc r6]
        simp only []
        have hL : ZA (sig.drop (4 + tN p), true) = some ((sig.drop (4 + tN p)).length : Int) := rfl
        rw [Qc hL, Qc (Ut _ _)]
        simp only []
        have hF : Zp (sig.drop (4 + tN p), true) = some true := rfl
        rw [Qc hF, QU (by decide), Option.bind_some, QU (by decide), Option.bind_some]
        refine congrArg some ?_
        unfold qT
        rw [decide_eq_false (fun hc => h7 hc.2.2.2.2.2.1)]
      ·have r5 : QN (sig.drop (0 + 4), false) (tN p : Int) = some ((sig.drop (0 + 4), true), []) := BD _ _ (by right; rw [List.length_drop]; omega)
       rw [Qc r5]
       simp only []
       rw [Qc (Ut _ _)]
       simp only []
       have hL : ZA (sig.drop (0 + 4), true) = some ((sig.drop (0 + 4)).length : Int) := rfl
       rw [Qc hL, Qc (Ut _ _)]
       simp only []
       have hF : Zp (sig.drop (0 + 4), true) = some true := rfl
       rw [Qc hF, QU (by decide), Option.bind_some, QU (by decide), Option.bind_some]
       refine congrArg some ?_
       unfold qT
       rw [decide_eq_false (fun hc => h6 (by have := hc.2.2.2.2.2.1; omega))]
     ·have hv : qT p msg sig = false := by unfold qT; rw [decide_eq_false (fun hc => hk hc.2.2.2.2.1)]
      rw [hv, Qc (Qjy (by unfold okP at hk; omega))]
      have r5 : QN (sig.drop (0 + 4), false) (0 : Int) = some ((sig.drop (4 + 0), false), (sig.drop 4).take 0) := VL sig 4 0 (by omega)
      rw [Qc r5]
      simp only []
      by_cases h7 : 60 ≤ sig.length
      ·have r6 : QN (sig.drop (4 + 0), false) (56 : Int) = _ := VL sig 4 56 (by omega)
       rw [Qc r6]
       simp only []
       have hln : (sig.drop (4 + 56)).length = sig.length - 60 := by rw [List.length_drop]
       have r7 := VL sig (4 + 56) (sig.drop (4 + 56)).length (by omega)
       have hL : ZA (sig.drop (4 + 56), false) = some ((sig.drop (4 + 56)).length : Int) := rfl
       rw [Qc hL, Qc r7]
       simp only []
       have hF : Zp (sig.drop (4 + 56 + (sig.drop (4 + 56)).length), false) = some false := rfl
       have s1 : Zk p (4 : Int) (p.length : Int) = some (p.drop 4) := by rw [Zt (lo := (4 : Int)) (a := 4) rfl rfl (by omega) (Nat.le_refl _), List.take_length]
       have q1 : (p.drop 4).length ≤ 4000000000 := by rw [List.length_drop]; omega
       have q2 : ((sig.drop 4).take 56).length ≤ 2000000000 := by rw [List.length_take]; omega
       have q3 : ((sig.drop 4).take 0).length ≤ 2000000000 := by rw [List.length_take]; omega
       have hvn : vrf (p.drop 4) ((sig.drop 4).take 56) ((sig.drop 4).take 0) = false := QlL (by rw [Qck, Qck]; exact hk)
       rw [Qc hF, QI (by rfl), Qc s1, Qc (Qan _ _ _ q1 q2 q3), hvn, Option.bind_some, QU (by decide), Option.bind_some]
      ·have r6 : QN (sig.drop (4 + 0), false) (56 : Int) = some ((sig.drop (4 + 0), true), []) := BD _ _ (by right; rw [List.length_drop]; omega)
       rw [Qc r6]
       simp only []
       have hL : ZA (sig.drop (4 + 0), true) = some ((sig.drop (4 + 0)).length : Int) := rfl
       rw [Qc hL, Qc (Ut _ _)]
       simp only []
       have hF : Zp (sig.drop (4 + 0), true) = some true := rfl
       rw [Qc hF, QU (by decide), Option.bind_some, QU (by decide), Option.bind_some]
    ·rw [QI (by rw [decide_eq_false h5]; rfl)]
     refine congrArg some ?_
     unfold qT
     rw [decide_eq_false (fun hc => h5 hc.2.2.2.1)]
   ·rw [Qc (QgN sig (by omega)), QI (by simp)]
    refine congrArg some ?_
    unfold qT
    rw [decide_eq_false (fun hc => h4 hc.2.2.1)]
  ·rw [QI (by rw [decide_eq_false h2]; rfl)]
   refine congrArg some ?_
   unfold qT
   rw [decide_eq_false (fun hc => h2 hc.2.1)]
 ·rw [QI (by simp; omega)]
  refine congrArg some ?_
  unfold qT
  rw [decide_eq_false (fun hc => hl hc.1)]
theorem Ql1 : be (BitVec.ofNat 32 2) 4 = [0#8, 0#8, 0#8, 2#8] := by decide
theorem QlO : be (BitVec.ofNat 32 1) 4 = [0#8, 0#8, 0#8, 1#8] := by decide
theorem QgX {t k : Nat} (ht : IsH t) (hk : JT k) (seed : Qa) : n4 (W1 t k seed) 0 = 2 ∧ n4 (W1 t k seed) 4 = t ∧ n4 (W1 t k seed) 8 = k ∧ (W1 t k seed).drop 4 = K7 t k (tID seed) (WA seed) := by
 obtain ⟨p1, p2, p3, p4⟩ := QcX ht hk (tID seed) (WA seed)
 have hd : (W1 t k seed).drop 4 = K7 t k (tID seed) (WA seed) := by unfold W1; rfl
 refine ⟨?_, ?_, ?_, hd⟩
 ·have := Qbj [] (K7 t k (tID seed) (WA seed)) 2 0 (by omega) rfl
  unfold W1
  rw [Ql1] at this
  exact this
 ·rw [← Qck _ 4 0, hd, p1]
 ·rw [← Qck _ 4 4, hd, p2]
theorem Qgf {t b k : Nat} (hb : IsH b) (seed : Qa) (n : Nat) (hn : n < KK t * KK b) (msg more : List (BitVec 8)) :
  n4 (Qay t b k seed n msg ++ more) 0 = 1 ∧ ((Qay t b k seed n msg ++ more).drop 4).take (8 + JO k + 32 * t) = WD t k (tID seed) (WA seed) (n / KK b) (K7 b k (bID seed (n / KK b)) (V4 seed (n / KK b))) ∧
  ((Qay t b k seed n msg ++ more).drop (4 + (8 + JO k + 32 * t))).take 56 = K7 b k (bID seed (n / KK b)) (V4 seed (n / KK b)) ∧ (Qay t b k seed n msg ++ more).drop (60 + (8 + JO k + 32 * t)) = WD b k (bID seed (n / KK b)) (V4 seed (n / KK b)) (n % KK b) msg ++ more := by
 obtain ⟨d1, d2⟩ := Qbc hb hn
 have l1 := Wv (h := t) (k := k) (tID seed) (WA seed) (n / KK b) d1 (K7 b k (bID seed (n / KK b)) (V4 seed (n / KK b)))
 have hp := Ba b k (bID seed (n / KK b)) (V4 seed (n / KK b))
 unfold Qay
 generalize WD t k (tID seed) (WA seed) (n / KK b) (K7 b k (bID seed (n / KK b)) (V4 seed (n / KK b))) = A at l1 ⊢
 generalize WD b k (bID seed (n / KK b)) (V4 seed (n / KK b)) (n % KK b) msg = C
 generalize K7 b k (bID seed (n / KK b)) (V4 seed (n / KK b)) = B at hp ⊢
 generalize 8 + JO k + 32 * t = N at l1 ⊢
 rw [← QlO]
 refine ⟨?_, ?_, ?_, ?_⟩
 ·have := Qbj [] (((A ++ B) ++ C) ++ more) 1 0 (by omega) rfl
  simpa [List.append_assoc] using this
 ·rw [List.append_assoc, List.append_assoc, List.append_assoc, List.drop_left' (JG _ _), List.take_left' l1]
 ·rw [List.append_assoc, List.append_assoc, List.drop_left' (by rw [List.length_append, JG, l1]), List.take_left' hp]
 ·rw [List.append_assoc, List.drop_left' (by rw [List.length_append, List.length_append, JG, l1, hp]; omega)]
theorem QhH {t b k : Nat} (ht : IsH t) (hb : IsH b) (hk : JT k) (seed : Qa) (n : Nat) (hn : n < KK t * KK b) (msg more : List (BitVec 8)) :
  qT (W1 t k seed) msg (Qay t b k seed n msg ++ more) = vrf (K7 b k (bID seed (n / KK b)) (V4 seed (n / KK b))) msg (WD b k (bID seed (n / KK b)) (V4 seed (n / KK b)) (n % KK b) msg ++ more) := by
 obtain ⟨d1, d2⟩ := Qbc hb hn
 obtain ⟨p1, p2, p3, p4⟩ := QgX ht hk seed
 obtain ⟨s1, s2, s3, s4⟩ := Qgf (t := t) (k := k) hb seed n hn msg more
 have hl := Qfd (t := t) (k := k) hb seed n hn msg
 have ht1 := Wq ht
 have hk1 := QgO hk
 have htn : tN (W1 t k seed) = 8 + JO k + 32 * t := by unfold tN; rw [p2, p3]
 unfold qT
 rw [htn, s1, s2, s3, s4, p4, p1, QcW]
 have hok : okP (W1 t k seed) := by unfold okP; rw [p2, p3]; omega
 have hr := QdR ht hk (tID seed) (WA seed) (n / KK b) d1 (K7 b k (bID seed (n / KK b)) (V4 seed (n / KK b)))
 by_cases v : vrf (K7 b k (bID seed (n / KK b)) (V4 seed (n / KK b))) msg (WD b k (bID seed (n / KK b)) (V4 seed (n / KK b)) (n % KK b) msg ++ more) = true
 ·rw [v, decide_eq_true ⟨rfl, rfl, by rw [List.length_append]; omega, rfl, hok, by rw [List.length_append]; omega, hr, rfl⟩]
 ·rw [decide_eq_false (fun hc => v hc.2.2.2.2.2.2.2)]
  simpa using v
theorem QgH {t b k : Nat} (ht : IsH t) (hb : IsH b) (hk : JT k) (seed : Qa) (n : Nat) (hn : n < KK t * KK b) (msg : List (BitVec 8)) : qT (W1 t k seed) msg (Qay t b k seed n msg) = true := by
 obtain ⟨d1, d2⟩ := Qbc hb hn
 have := QhH ht hb hk seed n hn msg []
 rw [List.append_nil, List.append_nil] at this
 rw [this]
 exact QdR hb hk _ _ _ d2 msg
end Go.Sl.Pu
set_option maxRecDepth 20000
namespace Go.Sl.Pu
open Go.Sl Go.Sl.M
attribute [local irreducible] w64 val hat n4 be
def WC (h : JP) : Prop := (1 ≤ h.1 ∧ h.1 ≤ 2147483647) ∧ (1 ≤ h.2.1 ∧ h.2.1 ≤ 2147483647)
instance (h : JP) : Decidable (WC h) := by unfold WC; infer_instance
theorem QlU (h : JP) : K5 h = some (decide (WC h)) := by
 unfold K5
 by_cases h1 : 1 ≤ h.1
 ·rw [QI (decide_eq_true h1), Option.bind_some]
  by_cases h2 : h.1 < 2147483648
  ·rw [QI (decide_eq_true h2), Option.bind_some]
   by_cases h3 : 1 ≤ h.2.1
   ·rw [QI (decide_eq_true h3), Option.bind_some]
    refine congrArg some (decide_eq_decide.2 ?_)
    unfold WC
    omega
   ·rw [QU (by simpa using h3), Option.bind_some, decide_eq_false (fun hc => by unfold WC at hc; omega)]
  ·rw [QU (by simpa using h2), Option.bind_some, QU (by decide), Option.bind_some, decide_eq_false (fun hc => by unfold WC at hc; omega)]
 ·rw [QU (by simpa using h1), Option.bind_some, QU (by decide), Option.bind_some, QU (by decide), Option.bind_some, decide_eq_false (fun hc => by unfold WC at hc; omega)]
theorem Qlm (h : Zf) : VB h = some (decide (WC h)) := by
 unfold VB
 by_cases h1 : 1 ≤ h.1
 ·rw [QI (decide_eq_true h1), Option.bind_some]
  by_cases h2 : h.1 ≤ 2147483647
  ·rw [QI (decide_eq_true h2), Option.bind_some]
   by_cases h3 : 1 ≤ h.2.1
   ·rw [QI (decide_eq_true h3), Option.bind_some]
    refine congrArg some (decide_eq_decide.2 ?_)
    unfold WC
    omega
   ·rw [QU (by simpa using h3), Option.bind_some, decide_eq_false (fun hc => by unfold WC at hc; omega)]
  ·rw [QU (by simpa using h2), Option.bind_some, QU (by decide), Option.bind_some, decide_eq_false (fun hc => by unfold WC at hc; omega)]
 ·rw [QU (by simpa using h1), Option.bind_some, QU (by decide), Option.bind_some, QU (by decide), Option.bind_some, decide_eq_false (fun hc => by unfold WC at hc; omega)]
def Qeu (h : JP) : List (BitVec 8) := ((be (BitVec.ofNat 32 h.1.toNat) 4 ++ be (BitVec.ofNat 32 h.2.1.toNat) 4) ++ h.2.2.1.toList) ++ h.2.2.2.toList
theorem Qfx (h : JP) : (Qeu h).length = 72 := by simp [Qeu, JG]
theorem QdQ (h : JP) : KP h = some (if WC h then (Qeu h, 0) else ([], 1)) := by
 unfold KP
 rw [Qc (QlU h)]
 by_cases hh : WC h
 ·rw [if_pos hh, QU (by rw [decide_eq_true hh]; decide)]
  unfold WC at hh
  rw [show h.1 = ((h.1.toNat : Nat) : Int) by omega, show h.2.1 = ((h.2.1.toNat : Nat) : Int) by omega, Uy, Uy, Qc (WV [] (by simp) _), Qc (WV _ (by simp [JG]) _), Qc (VK _ _ (by simp [JG])), Qc (VK _ _ (by simp [JG])), Qc (QaS _ (by simp [JG]))]
  rfl
 ·rw [if_neg hh, QI (by rw [decide_eq_false hh]; rfl)]
end Go.Sl.Pu
set_option maxRecDepth 20000
namespace Go.Sl.Pu
open Go.Sl Go.Sl.M
attribute [local irreducible] w64 val hat n4 be sha qT
theorem Qic (b : List (BitVec 8)) (hb : b.length ≤ 3999999999) : X3 b = some (sha (0#8 :: b)) := by
 unfold X3
 rw [QI (QeE (by simp; omega)), Qc (QaL _ (by simp; omega))]; rfl
theorem QhF (x : Int) : (BitVec.ofInt 64 x) % (4294967296#64) = (BitVec.ofInt 32 x).setWidth 64 := by
 apply BitVec.eq_of_toNat_eq
 rw [BitVec.toNat_umod, BitVec.toNat_setWidth, BitVec.toNat_ofInt, BitVec.toNat_ofInt]
 simp only [BitVec.toNat_ofNat, Nat.reducePow, Nat.reduceMod]
 omega
theorem Qgy (e : Int) (t : Qa) : XH e t = some (sha (0#8 :: (be (BitVec.ofInt 32 e) 4 ++ t.toList))) := by
 unfold XH
 have hn : ZD ((BitVec.ofInt 64 e) % (4294967296#64)) (4 : Int) = some (be (BitVec.ofInt 32 e) 4) := by
  rw [QhF, ← Qb2 (BitVec.ofInt 32 e) 4 (by omega) (by omega)]
  exact QdP _ 4 (by omega)
 rw [Qc hn, QI (QeE (by simp [JG])), Qc (Qic _ (by simp [JG]))]
noncomputable def Qgc (s : QB) (p : List (BitVec 8)) : Bool := if WC s.1 then qT p (Qeu s.1) s.2 else false
theorem QjJ (s : QB) (p : List (BitVec 8)) (hs : s.2.length ≤ 2000000000) (hp : p.length ≤ 2000000000) : KF s p = some (Qgc s p) := by
 unfold KF Qgc
 rw [Qc (QdQ _)]
 by_cases hh : WC s.1
 ·rw [if_pos hh, QI (by simp), Qc (QgJ _ _ _ hp (by show (Qeu s.1).length ≤ _; rw [Qfx]; omega) hs), Option.bind_some, if_pos hh]
 ·rw [if_neg hh, QU (by simp), Option.bind_some, if_neg hh]
end Go.Sl.Pu
set_option linter.unusedSectionVars false
namespace Go.Sl
namespace Pu
open Go.Sl Go.Sl.M
abbrev Wu : Qa := #v[27#8, 0#8, 0#8, 0#8, 0#8, 0#8, 0#8, 0#8, 0#8, 0#8, 0#8, 0#8, 0#8, 0#8, 0#8, 0#8, 0#8, 0#8, 0#8, 0#8, 0#8, 0#8, 0#8, 0#8, 0#8, 0#8, 0#8, 0#8, 0#8, 0#8, 0#8, 0#8]
theorem ih1 : IsH 1 := Or.inl rfl
theorem ih2 : IsH 2 := Or.inr (Or.inl rfl)
theorem ik3 : JT 3 := Or.inr (Or.inr (Or.inl rfl))
theorem Qli : KK 1 * KK 2 = 8 := rfl
theorem QfS : ∃ s : Sg, YJ = some s ∧ IsS 1 2 3 Wu s := by
 obtain ⟨s, hs, hI⟩ := QjS ih1 ih2 ik3 Wu
 have hs' : qv (1 : Int) (2 : Int) (3 : Int) Wu = _ := hs
 refine ⟨s, ?_, hI⟩
 unfold YJ
 rw [Option.bind_some, Qc hs', Option.bind_some]
def Qa2 (h : JP) : Nat := ((BitVec.ofInt 64 h.1) % (8#64)).toNat
theorem QcF (h : JP) : Qa2 h < 8 := by
 unfold Qa2
 rw [BitVec.toNat_umod]
 exact Nat.mod_lt _ (by decide)
def BX (h : JP) : List (BitVec 8) := Qay 1 2 3 Wu (Qa2 h) (Qeu h)
def VC : List (BitVec 8) := W1 1 3 Wu
theorem QcL {s : Sg} (hI : IsS 1 2 3 Wu s) (h : JP) (hh : WC h) : ∃ s' : Sg, Zg s h = some (s', (h, BX h)) ∧ IsS 1 2 3 Wu s' := by
 have he := QdQ h
 rw [if_pos hh] at he
 have hl := Qfx h
 have hn := QcF h
 obtain ⟨s', hs2, hI2⟩ := QjG ih1 ih2 ik3 hI (Qa2 h) (by rw [Qli]; exact hn) (Qeu h) (by omega)
 refine ⟨s', ?_, hI2⟩
 have hw : w64 (((BitVec.ofInt 64 h.1) % (8#64)).toNat : Int) = ((Qa2 h : Nat) : Int) := Jr (by have : ((BitVec.ofInt 64 h.1) % (8#64)).toNat = Qa2 h := rfl; omega)
 have hd : W9 s ((Qa2 h : Nat) : Int) h = some (s', (h, BX h), 0) := by
  unfold W9
  rw [Qc he, QU (by simp), show ((s.1, s.2.1, s.2.2.1, s.2.2.2.1, s.2.2.2.2.1, s.2.2.2.2.2) : Sg) = s from rfl, Qc hs2, QU (by simp), Option.bind_some]
  rfl
 unfold Zg
 rw [hw, show ((s.1, s.2.1, s.2.2.1, s.2.2.2.1, s.2.2.2.2.1, s.2.2.2.2.2) : Sg) = s from rfl, Qc hd]
theorem qE (h : JP) : (BX h).length ≤ 2000000 := by
 have := Qfd (t := 1) (k := 3) ih2 Wu (Qa2 h) (by rw [Qli]; exact QcF h) (Qeu h)
 have hsz : JO 3 = 2180 := rfl
 unfold BX
 omega
theorem Qeo (h : JP) (hh : WC h) : KF (h, BX h) VC = some true := by
 have hr := QgH ih1 ih2 ik3 Wu (Qa2 h) (by rw [Qli]; exact QcF h) (Qeu h)
 have hp : VC.length = 60 := QcW 1 3 Wu
 have hsl := qE h
 rw [QjJ (h, BX h) VC (by show (BX h).length ≤ _; omega) (by omega)]
 unfold Qgc
 rw [if_pos hh]
 exact congrArg some hr
end Pu
end Go.Sl
namespace Go.Sl
namespace Pu
open Go.Sl Go.Sl.M
abbrev Sgd := QB
theorem Qdm (s : Sgd) (h : s.2.length ≤ 2000000) : Xt s = some s := by
 unfold Xt
 have hcl : Jq s.2 = some s.2 := by unfold Jq; rw [QI (by simp [AP]; omega)]; simp
 rw [Qc hcl]
def WL (l : List Sgd) (e : Int) (k : Nat) : Prop := k ≤ l.length ∧ (∀ i (h : i < l.length), i < k → l[i].1.1 < e) ∧ (∀ i (h : i < l.length), k ≤ i → e ≤ l[i].1.1)
def qJ (l : List Sgd) : Prop := l.length ≤ 1000 ∧ ∀ s ∈ l, 0 ≤ s.1.1 ∧ s.1.1 ≤ 2147483647
theorem QlG {i j : Nat} (hj : j ≤ 1000) (hi : i < j) : w64 (((BitVec.ofInt 64 (w64 ((i : Int) + (j : Int)))) >>> 1).toNat : Int) = (((i + j) / 2 : Nat) : Int) := by
 rw [Jr (n := (i : Int) + (j : Int)) (by omega)]
 have e1 : (BitVec.ofInt 64 ((i : Int) + (j : Int))).toNat = i + j := by
  rw [BitVec.toNat_ofInt]; omega
 have e2 : ((BitVec.ofInt 64 ((i : Int) + (j : Int))) >>> 1).toNat = (i + j) / 2 := by
  rw [BitVec.toNat_ushiftRight, e1, Nat.shiftRight_eq_div_pow]
 rw [e2, Jr (by omega)]
theorem Qga (l : List Sgd) (e : Int) (k : Nat) (hs : qJ l) (he : 0 ≤ e ∧ e ≤ 2147483647) (hk : WL l e k) :
  Q3 (fun (s : Int × Int) => QM l e s.1 s.2) FU ((0 : Int), (l.length : Int)) = some ((k : Int), (k : Int)) := by
 obtain ⟨hk0, hk1, hk2⟩ := hk
 have hlen := hs.1
 obtain ⟨s, h1, h2⟩ := qw (f := fun (s : Int × Int) => QM l e s.1 s.2) (fun (s : Int × Int) => ∃ i j : Nat, s = ((i : Int), (j : Int)) ∧ i ≤ k ∧ k ≤ j ∧ j ≤ l.length) (fun (s : Int × Int) => (s.2 - s.1).toNat) (fun s => s = ((k : Int), (k : Int))) (by
  rintro s ⟨i, j, rfl, h1, h2, h3⟩
  simp only [QM]
  by_cases hij : i < j
  ·left
   have hm : (i + j) / 2 < l.length := by omega
   have hsm := hs.2 _ (List.getElem_mem hm)
   rw [QI (by simp; omega), QlG (by omega) hij, Option.bind_some, Qc (Jm rfl hm)]
   unfold YL
   rw [Option.bind_some, Jr (n := l[(i + j) / 2].1.1 - e) (by omega)]
   by_cases hlt : l[(i + j) / 2].1.1 < e
   ·rw [QI (by simp; omega), Jr (by omega)]
    refine ⟨_, rfl, ⟨(i + j) / 2 + 1, j, by simp, ?_, h2, h3⟩, by dsimp only; omega⟩
    rcases Nat.lt_or_ge ((i + j) / 2) k with h | h
    ·exact h
    ·have := hk2 _ hm h; omega
   ·rw [QU (by simp; omega)]
    refine ⟨_, rfl, ⟨i, (i + j) / 2, rfl, h1, ?_, by omega⟩, by dsimp only; omega⟩
    rcases Nat.lt_or_ge ((i + j) / 2) k with h | h
    ·exact absurd (hk1 _ hm h) hlt
    ·exact h
  ·right
   rw [QU (by simp; omega)]
   have : i = k := by omega
   have : j = k := by omega
   subst_vars
   exact ⟨_, rfl, rfl⟩) FU _ ⟨0, l.length, rfl, by omega, hk0, Nat.le_refl _⟩ (Nat.lt_of_le_of_lt (show _ ≤ l.length by dsimp only; omega) (J4 (by omega)))
 rw [h2] at h1
 exact h1
theorem qF (pu : List (BitVec 8)) (l : List Sgd) (fo : List Q8) (li : List QZ) (e : Int) (k : Nat) (hs : qJ l) (he : 0 ≤ e ∧ e ≤ 2147483647) (hk : WL l e k) :
  JB (some (pu, l, fo, li)) e = some ((k : Int), decide (∃ s ∈ l[k]?, s.1.1 = e)) := by
 have hlen := hs.1
 unfold JB Q6
 rw [Option.bind_some]
 rw [Qc (Qga l e k hs he hk)]
 dsimp only
 by_cases h : k < l.length
 ·have hsm := hs.2 _ (List.getElem_mem h)
  rw [QI (by simp; omega), Qc (Jm rfl h)]
  unfold YL
  rw [Option.bind_some, Option.bind_some, Jr (n := l[k].1.1 - e) (by omega), Option.bind_some]
  have : (∃ s ∈ l[k]?, s.1.1 = e) ↔ l[k].1.1 - e = 0 := by
   rw [List.getElem?_eq_getElem h]; simp; omega
  simp only [this, Option.bind_some]
 ·rw [QU (by simp; omega), Option.bind_some, Option.bind_some]
  have : ¬ (∃ s ∈ l[k]?, s.1.1 = e) := by
   rw [List.getElem?_eq_none (by omega)]; simp
  exact congrArg (fun b => some ((k : Int), b)) (decide_eq_false this).symm
end Pu
end Go.Sl
namespace Go.Sl
namespace Pu
open Go.Sl Go.Sl.M
end Pu
end Go.Sl
namespace Go.Sl
namespace Pu
open Go.Sl Go.Sl.M
section
variable (pu : List (BitVec 8)) (l : List Sgd) (fo : List Q8) (li : List QZ) (s : Sgd) (k : Nat) (hr : KF s pu = some true) (hs : qJ l) (he : 0 ≤ s.1.1 ∧ s.1.1 ≤ 2147483647) (hk : WL l s.1.1 k)
include hr hs he hk
theorem Qc5 (hn : ¬ ∃ x ∈ l[k]?, x.1.1 = s.1.1) (hl : l.length < 64) (hS : s.2.length ≤ 2000000) : ZU (pu, l, fo, li) s = some ((pu, l.take k ++ [s] ++ l.drop k, fo, li), 0) := by
 have hk0 := hk.1
 unfold ZU
 rw [Qc hr, QU (by simp)]
 dsimp only
 rw [Qc (qF pu l fo li s.1.1 k hs he hk)]
 dsimp only
 rw [decide_eq_false hn, QU (by simp), Option.bind_some, QU (by simp), QU (by simp), Option.bind_some, QU (by simp; omega), Qc (Qdm s hS)]
 unfold ZX
 rw [if_pos ⟨by omega, by omega, rfl, by omega⟩, Option.bind_some, Int.toNat_natCast]
end
end Pu
end Go.Sl
namespace Go.Sl
namespace Pu
open Go.Sl Go.Sl.M
theorem QhU (pu : List (BitVec 8)) (l : List Sgd) (fo : List Q8) (li : List QZ) (hn : l.length ≤ 1000) (hS : ∀ s ∈ l, s.2.length ≤ 2000000) : XS (pu, l, fo, li) = some l := by
 unfold XS
 have h1 := QhB (f := fun (s : Int × List Sgd) => Yr (pu, l, fo, li) s.1 s.2) l id (by omega) (fun i hi acc ha => by
  simp only [Yr]
  have hv := hS _ (List.getElem_mem hi)
  rw [QI (by simp; omega), Qc (Jm rfl hi), Qc (Qdm _ hv), QI (by simp [AP]; omega), Jr (by omega)]; rfl) (fun acc => by
  simp only [Yr]
  rw [QU (by simp)])
 rw [Qc h1]; simp
theorem Qhy (pu : List (BitVec 8)) (h : pu.length ≤ 2000000) : Un pu = some (pu, [], [], []) := by
 unfold Un
 have hcl : Jq pu = some pu := by unfold Jq; rw [QI (by simp [AP]; omega)]; simp
 rw [Qc hcl]
 try rfl
end Pu
end Go.Sl
namespace Go.Sl
namespace Pu
open Go.Sl Go.Sl.M
theorem QdO : VC.length ≤ 2000000 := by
 have : VC.length = 60 := QcW 1 3 Wu
 omega
def Vn (h : JP) : Sgd := (h, BX h)
theorem QdS (e : Int) : WL [] e 0 := ⟨Nat.le_refl _, fun i h => by simp at h, fun i h => by simp at h⟩
theorem Qh2 (s : Sgd) : WL [s] s.1.1 0 := ⟨by simp, fun i h hi => by omega, fun i h _ => by
 have : i = 0 := by simp at h; omega
 subst this; exact Int.le_refl _⟩
theorem Qd2 : qJ [] := ⟨by simp, fun s h => by cases h⟩
theorem Qd4 (s : Sgd) (h : 0 ≤ s.1.1 ∧ s.1.1 ≤ 2147483647) : qJ [s] := ⟨by simp, fun x hx => by rw [List.mem_singleton.1 hx]; exact h⟩
def Qci : JP := (3, 1, Vector.replicate 32 0#8, Vector.replicate 32 0#8)
theorem Qfn (pu : List (BitVec 8)) (s : Sgd) (h : 0 ≤ s.1.1 ∧ s.1.1 ≤ 2147483647) : J6 (some (pu, [s], [], [])) s.1.1 s.1.1 = some true := by
 unfold J6
 have hp := qF pu [s] [] [] s.1.1 0 (Qd4 s h) h (Qh2 s)
 have hy : ∃ x ∈ [s][0]?, x.1.1 = s.1.1 := ⟨s, rfl, rfl⟩
 rw [decide_eq_true hy] at hp
 rw [QU (by simp), Qc hp, Qc hp]
 dsimp only
 rw [QU (by simp), Option.bind_some, QU (by simp)]
 have h1 : JZ s.1.1 (some (pu, [s], [], [])) 0 [s.1.1] = some (.ret true) := by
  unfold JZ
  rw [QI (by simp), Qc (show JW [s.1.1] 0 = some s.1.1 from rfl), QI (by simp)]
 have h2 := Wd (f := fun (s1 : Int × List Int) => JZ s.1.1 (some (pu, [s], [], [])) s1.1 s1.2) (n := FU - 1) (s := ((0 : Int), [s.1.1])) h1
 rw [show FU - 1 + 1 = FU from rfl] at h2
 rw [Qc h2]
theorem Qel : YR = some true := by
 unfold YR
 obtain ⟨s, hs, hI⟩ := QfS
 have hh : WC Qci := by decide
 obtain ⟨s', hs2, hI2⟩ := QcL hI Qci hh
 have W1 : Ya s = some VC := Qdo ih1 hI
 have hsl := qE Qci
 have hput := Qc5 VC [] [] [] (Vn Qci) 0 (Qeo Qci hh) Qd2 (show 0 ≤ (3 : Int) ∧ (3 : Int) ≤ 2147483647 by omega) (QdS _) (by simp) (by simp) hsl
 rw [Qc hs, show ((s.1, s.2.1, s.2.2.1, s.2.2.2.1, s.2.2.2.2.1, s.2.2.2.2.2) : Sg) = s from rfl, Qc W1, Qc (Qhy VC QdO), Option.bind_some, Qc (show Zg s ((3 : Int), (1 : Int), Vector.replicate 32 0#8, Vector.replicate 32 0#8) = _ from hs2)]
 dsimp only
 rw [Qc (show ZU (VC, [], [], []) (Qci, BX Qci) = _ from hput)]
 dsimp only
 rw [QI (by simp)]
 have hhd := QhU VC [Vn Qci] [] [] (by simp) (fun x hx => by rw [List.mem_singleton.1 hx]; exact hsl)
 have hlk : J6 (some (VC, [Vn Qci], [], [])) (3 : Int) (3 : Int) = some true := Qfn VC (Vn Qci) (show 0 ≤ (3 : Int) ∧ (3 : Int) ≤ 2147483647 by omega)
 have e1 : ([] : List Sgd).take 0 ++ [Vn Qci] ++ ([] : List Sgd).drop 0 = [Vn Qci] := rfl
 rw [e1, Qc hhd, Option.bind_some, QI (by simp), Qc hlk, Option.bind_some]
end Pu
end Go.Sl
namespace Go.Sl
namespace Pu
open Go.Sl Go.Sl.M
abbrev Lk := QZ
inductive Rch (L : List (Int × Int)) (m : Int) : Int → Prop
 | refl : Rch L m m
 | step {a b : Int} : Rch L m a → (a, b) ∈ L → Rch L m b
def nxt (b : List Int) (d : Int) : List Int := if d ∈ b then b else b ++ [d]
theorem QiN (b : List Int) (d : Int) (hb : b.length ≤ 100000) : Zb b d = some (nxt b d) := by
 unfold Zb
 obtain ⟨o, h1, h2⟩ := Wc (f := fun (s : Int) => YQ b d s) (fun (s : Int) => ∃ i : Nat, s = (i : Int) ∧ i ≤ b.length ∧ ∀ j (h : j < b.length), j < i → b[j] ≠ d) (fun s => b.length - s.toNat) (fun (o : Int ⊕ Int) => match o with | .inl _ => d ∉ b | .inr _ => d ∈ b) (by
  rintro s ⟨i, rfl, h1, h2⟩
  simp only [YQ]
  by_cases hi : i < b.length
  ·rw [QI (by simp; omega), Qc (Jm rfl hi)]
   by_cases he : b[i] = d
   ·right; right
    rw [QI (by simpa using he)]
    exact ⟨_, rfl, he ▸ List.getElem_mem hi⟩
   ·left
    rw [QU (by simpa using he), Jr (by omega)]
    refine ⟨_, rfl, ⟨i + 1, by simp, by omega, fun j hj hji => ?_⟩, by omega⟩
    rcases Nat.lt_or_ge j i with h | h
    ·exact h2 j hj h
    ·have : j = i := by omega
     subst this; exact he
  ·right; left
   rw [QU (by simp; omega)]
   refine ⟨_, rfl, fun hm => ?_⟩
   obtain ⟨j, hj, hjd⟩ := List.mem_iff_getElem.1 hm
   exact h2 j hj (by omega) hjd) FU (0 : Int) ⟨0, rfl, by omega, fun j _ h => by omega⟩ (Nat.lt_of_le_of_lt (Nat.sub_le _ _) (J4 (by omega)))
 rw [Qc h1]
 unfold nxt
 cases o with
 | inl s => rw [if_neg (show d ∉ b from h2)]; dsimp only; rw [QI (by simp [AP]; omega)]
 | inr r => rw [if_pos (show d ∈ b from h2)]
def Ue (L : List Lk) (e : Int) (b : List Int) : List Int := L.foldl (fun b l => if l.1 = e then nxt b l.2 else b) b
theorem QkN (b : List Int) (d : Int) : (nxt b d).length ≤ b.length + 1 := by
 unfold nxt; split
 ·omega
 ·simp
theorem QdA (L : List Lk) (x : Lk) (e : Int) (b : List Int) : Ue (L ++ [x]) e b = if x.1 = e then nxt (Ue L e b) x.2 else Ue L e b := by simp [Ue, List.foldl_append]
theorem QjI (pu : List (BitVec 8)) (l : List Sgd) (fo : List Q8) (li : List QZ) (e : Int) (b : List Int) (hl : li.length ≤ 1000) (hb : b.length ≤ 5000) : Xi (fun (s : List Int) (d : Int) => Zb s d) (some (pu, l, fo, li)) e b = some (Ue li e b) := by
 unfold Xi
 rw [Option.bind_some]
 obtain ⟨s, h1, h2⟩ := qw (f := fun (s : Int × List Int) => YG (pu, l, fo, li) e (fun (s : List Int) (d : Int) => Zb s d) s.1 s.2) (fun (s : Int × List Int) => ∃ i : Nat, i ≤ li.length ∧ s = ((i : Int), Ue (li.take i) e b) ∧ (Ue (li.take i) e b).length ≤ b.length + i) (fun (s : Int × List Int) => li.length - s.1.toNat) (fun (s : Int × List Int) => s.2 = Ue li e b) (by
  rintro s ⟨i, hi, rfl, hlen⟩
  simp only [YG]
  by_cases h : i < li.length
  ·left
   rw [QI (by simp; omega), Qc (Jm rfl h)]
   have ht : li.take (i + 1) = li.take i ++ [li[i]] := by simp
   by_cases he : li[i].1 = e
   ·rw [QI (by simpa using he), Qc (QiN _ _ (by omega)), Jr (by omega)]
    have := QkN (Ue (li.take i) e b) li[i].2
    have hg : Ue (li.take (i + 1)) e b = nxt (Ue (li.take i) e b) li[i].2 := by rw [ht, QdA, if_pos he]
    refine ⟨_, rfl, ⟨i + 1, by omega, by rw [hg]; rfl, by rw [hg]; omega⟩, by dsimp only; omega⟩
   ·rw [QU (by simpa using he), Jr (by omega)]
    have hg : Ue (li.take (i + 1)) e b = Ue (li.take i) e b := by rw [ht, QdA, if_neg he]
    refine ⟨_, rfl, ⟨i + 1, by omega, by rw [hg]; rfl, by rw [hg]; omega⟩, by dsimp only; omega⟩
  ·right
   rw [QU (by simp; omega)]
   have : i = li.length := by omega
   subst this
   exact ⟨_, rfl, by rw [List.take_length]⟩) FU ((0 : Int), b) ⟨0, by omega, rfl, Nat.le_refl _⟩ (Nat.lt_of_le_of_lt (Nat.sub_le _ _) (J4 (by omega)))
 rw [Qc h1, h2]
theorem WU (e : Int) : ∀ (L : List Lk) (b : List Int), b.Nodup → ∃ x, Ue L e b = b ++ x ∧ (b ++ x).Nodup ∧ (∀ d ∈ x, (e, d) ∈ L) ∧ ∀ d, (e, d) ∈ L → d ∈ b ++ x
 | [], b, hb => ⟨[], by simp [Ue], by simpa using hb, fun d h => (by cases h), fun d h => (by cases h)⟩
 | y :: L, b, hb => by
  by_cases he : y.1 = e
  ·by_cases hm : y.2 ∈ b
   ·obtain ⟨x, h1, h2, h3, h4⟩ := WU e L b hb
    refine ⟨x, ?_, h2, fun d hd => List.mem_cons_of_mem _ (h3 d hd), fun d hd => ?_⟩
    ·rw [← h1]
     show Ue L e (if y.1 = e then nxt b y.2 else b) = _
     rw [if_pos he, nxt, if_pos hm]
    ·rcases List.mem_cons.1 hd with h | h
     ·rw [show d = y.2 from congrArg Prod.snd h]; exact List.mem_append_left _ hm
     ·exact h4 d h
   ·obtain ⟨x, h1, h2, h3, h4⟩ := WU e L (b ++ [y.2]) (List.nodup_append.2 ⟨hb, by simp, fun a ha c hc => by rw [List.mem_singleton.1 hc]; rintro rfl; exact hm ha⟩)
    refine ⟨y.2 :: x, ?_, by simpa using h2, fun d hd => ?_, fun d hd => ?_⟩
    ·rw [show b ++ y.2 :: x = b ++ [y.2] ++ x by simp, ← h1]
     show Ue L e (if y.1 = e then nxt b y.2 else b) = _
     rw [if_pos he, nxt, if_neg hm]
    ·rcases List.mem_cons.1 hd with h | h
     ·rw [h, ← he]; exact List.mem_cons_self
     ·exact List.mem_cons_of_mem _ (h3 d h)
    ·rcases List.mem_cons.1 hd with h | h
     ·rw [show d = y.2 from congrArg Prod.snd h]; simp
     ·have := h4 d h; simpa using this
  ·obtain ⟨x, h1, h2, h3, h4⟩ := WU e L b hb
   refine ⟨x, ?_, h2, fun d hd => List.mem_cons_of_mem _ (h3 d hd), fun d hd => ?_⟩
   ·rw [← h1]
    show Ue L e (if y.1 = e then nxt b y.2 else b) = _
    rw [if_neg he]
   ·rcases List.mem_cons.1 hd with h | h
    ·exact absurd (congrArg Prod.fst h).symm he
    ·exact h4 d h
theorem QdU : ∀ (a b : List Int), a.Nodup → (∀ x ∈ a, x ∈ b) → a.length ≤ b.length
 | [], b, _, _ => by simp
 | x :: a, b, hn, hs => by
  have hx : x ∈ b := hs x List.mem_cons_self
  have hn' := List.nodup_cons.1 hn
  have := QdU a (b.erase x) hn'.2 (fun y hy => (List.mem_erase_of_ne (fun h : y = x => hn'.1 (by rw [← h]; exact hy))).2 (hs y (List.mem_cons_of_mem _ hy)))
  rw [List.length_erase_of_mem hx] at this
  have := List.length_pos_of_mem hx
  simp only [List.length_cons]
  omega
theorem QiY {L : List Lk} {m : Int} {b : List Int} (hm : m ∈ b) (h : ∀ x ∈ b, ∀ d, (x, d) ∈ L → d ∈ b) : ∀ {n : Int}, Rch L m n → n ∈ b
 | _, .refl => hm
 | _, .step hr hl => h _ (QiY hm h hr) _ hl
theorem QkO {L : List Lk} {m x : Int} (h : Rch L m x) : x ∈ m :: L.map Prod.snd := by
 cases h with
 | refl => exact List.mem_cons_self
 | step _ hl => exact List.mem_cons_of_mem _ (List.mem_map.2 ⟨_, hl, rfl⟩)
theorem QfN (pu : List (BitVec 8)) (l : List Sgd) (fo : List Q8) (li : List QZ) (m n : Int) (hl : li.length ≤ 1000) :
  ∃ o, ZO (fun (s : Int × (List Int)) => JZ n (some (pu, l, fo, li)) s.1 s.2) FU ((0 : Int), [m]) = some o ∧ (match o with | .inl _ => ¬ Rch li m n | .inr x => x = true ∧ Rch li m n) := by
 refine Wc (f := fun (s : Int × (List Int)) => JZ n (some (pu, l, fo, li)) s.1 s.2) (fun (s : Int × (List Int)) => ∃ k : Nat, s.1 = (k : Int) ∧ k ≤ s.2.length ∧ s.2.Nodup ∧ (∀ x ∈ s.2, Rch li m x) ∧ m ∈ s.2 ∧ ∀ j (h : j < s.2.length), j < k → s.2[j] ≠ n ∧ ∀ d, (s.2[j], d) ∈ li → d ∈ s.2) (fun (s : Int × (List Int)) => 2000 - s.1.toNat) (fun (o : (Int × List Int) ⊕ Bool) => match o with | .inl _ => ¬ Rch li m n | .inr x => x = true ∧ Rch li m n) ?_ FU _ ⟨0, rfl, by simp, by simp, fun x hx => (by rw [List.mem_singleton.1 hx]; exact .refl), by simp, fun j _ h => by omega⟩ (Nat.lt_of_le_of_lt (Nat.sub_le _ _) (J4 (by omega)))
 rintro ⟨i, b⟩ ⟨k, h1, h2, h3, h4, h5, h6⟩
 dsimp only at h1 h2 h3 h4 h5 h6 ⊢
 subst h1
 have hlen : b.length ≤ li.length + 1 := by
  have := QdU b (m :: li.map Prod.snd) h3 (fun x hx => QkO (h4 x hx))
  simpa using this
 simp only [JZ]
 by_cases hk : k < b.length
 ·rw [QI (by simp; omega), Qc (Jm rfl hk)]
  by_cases he : b[k] = n
  ·right; right
   rw [QI (by simpa using he)]
   exact ⟨_, rfl, rfl, he ▸ h4 _ (List.getElem_mem hk)⟩
  ·left
   obtain ⟨x, g1, g2, g3, g4⟩ := WU b[k] li b h3
   rw [QU (by simpa using he), Qc (Jm rfl hk), Qc (QjI pu l fo li _ b hl (by omega)), Jr (by omega), g1]
   refine ⟨_, rfl, ⟨k + 1, rfl, by simp; omega, g2, fun y hy => ?_, List.mem_append_left _ h5, fun j hj hjk => ?_⟩, by dsimp only; omega⟩
   ·rcases List.mem_append.1 hy with hy | hy
    ·exact h4 y hy
    ·exact .step (h4 _ (List.getElem_mem hk)) (g3 y hy)
   ·have hjb : j < b.length := by omega
    have hg : (b ++ x)[j] = b[j] := List.getElem_append_left hjb
    dsimp only
    rw [hg]
    rcases Nat.lt_or_ge j k with h | h
    ·obtain ⟨p, q⟩ := h6 j hjb h
     exact ⟨p, fun d hd => List.mem_append_left _ (q d hd)⟩
    ·have : j = k := by omega
     subst this
     exact ⟨he, fun d hd => g4 d hd⟩
 ·right; left
  rw [QU (by simp; omega)]
  refine ⟨_, rfl, fun hr => ?_⟩
  have hin := QiY h5 (fun y hy d hd => by
   obtain ⟨j, hj, rfl⟩ := List.mem_iff_getElem.1 hy
   exact (h6 j hj (by omega)).2 d hd) hr
  obtain ⟨j, hj, hjn⟩ := List.mem_iff_getElem.1 hin
  exact (h6 j hj (by omega)).1 hjn
theorem Qdp (pu : List (BitVec 8)) (l : List Sgd) (fo : List Q8) (li : List QZ) (m n : Int) (hl : li.length ≤ 1000) {k1 k2 : Int} {b1 b2 : Bool} (h1 : JB (some (pu, l, fo, li)) m = some (k1, b1)) (h2 : JB (some (pu, l, fo, li)) n = some (k2, b2)) :
  ∃ b, J6 (some (pu, l, fo, li)) m n = some b ∧ (b = true ↔ b1 = true ∧ b2 = true ∧ Rch li m n) := by
 unfold J6
 rw [QU (by simp), Qc h1, Qc h2]
 dsimp only
 cases b1 with
 | false => rw [QI (by simp), Option.bind_some, QI (by simp)]; exact ⟨false, rfl, by simp⟩
 | true =>
  cases b2 with
  | false => rw [QU (by simp), Option.bind_some, QI (by simp)]; exact ⟨false, rfl, by simp⟩
  | true =>
   rw [QU (by simp), Option.bind_some, QU (by simp)]
   obtain ⟨o, g1, g2⟩ := QfN pu l fo li m n hl
   rw [Qc g1]
   cases o with
   | inl s => exact ⟨false, rfl, by simpa using (show ¬ Rch li m n from g2)⟩
   | inr x =>
    obtain ⟨rfl, g3⟩ : x = true ∧ Rch li m n := g2
    exact ⟨true, rfl, by simpa using g3⟩
end Pu
end Go.Sl
namespace Go.Sl.Fr
variable {H : Type}
abbrev P (H : Type) : Type := Nat × Nat × H
def push (nd : H → H → H) : List (P H) → P H → List (P H)
 | [], x => [x]
 | y :: st, x => if y.2.1 = x.2.1 ∧ 2 ^ (y.2.1 + 1) ∣ y.1 then push nd st (y.1, y.2.1 + 1, nd y.2.2 x.2.2) else x :: y :: st
def Ct (a : Nat) : List (P H) → Nat → Prop
 | [], e => a = e
 | y :: st, e => y.1 + 2 ^ y.2.1 = e ∧ 2 ^ y.2.1 ∣ y.1 ∧ Ct a st y.1
def Nf : List (P H) → Prop
 | [] => True
 | [_] => True
 | x :: y :: st => ¬ (y.2.1 = x.2.1 ∧ 2 ^ (y.2.1 + 1) ∣ y.1) ∧ Nf (y :: st)
theorem Uw {i j : Nat} (h : i ≤ j) : 2 ^ i ∣ 2 ^ j := Nat.pow_dvd_pow 2 h
theorem YP (k : Nat) : 2 ^ (k + 1) = 2 ^ k + 2 ^ k := by rw [Nat.pow_succ]; omega
theorem J2 (k : Nat) : 0 < 2 ^ k := Nat.pow_pos (by omega)
theorem B9 {k p : Nat} (h : 2 ^ (k + 1) ∣ p) : ¬ 2 ^ (k + 1) ∣ p + 2 ^ k := by
 intro hd
 have h2 : 2 ^ (k + 1) ∣ 2 ^ k := (Nat.dvd_add_right h).1 hd
 have := Nat.le_of_dvd (J2 k) h2
 have := YP k
 have := J2 k
 omega
theorem QcV {k p : Nat} (h : 2 ^ k ∣ p) (hn : ¬ 2 ^ (k + 1) ∣ p) : 2 ^ (k + 1) ∣ p + 2 ^ k := by
 obtain ⟨m, rfl⟩ := h
 have hp : 2 ^ (k + 1) = 2 ^ k * 2 := Nat.pow_succ ..
 have hm : m % 2 = 1 := by
  apply Decidable.byContradiction
  intro hc
  have : m = 2 * (m / 2) := by omega
  apply hn
  rw [hp]
  exact ⟨m / 2, by rw [Nat.mul_assoc, ← this]⟩
 have : m = 2 * (m / 2) + 1 := by omega
 refine ⟨m / 2 + 1, ?_⟩
 rw [hp, Nat.mul_assoc]
 calc 2 ^ k * m + 2 ^ k = 2 ^ k * (m + 1) := by rw [Nat.mul_add, Nat.mul_one]
  _ = 2 ^ k * (2 * (m / 2 + 1)) := congrArg (2 ^ k * ·) (by omega)
theorem Qcm (nd : H → H → H) {a : Nat} : ∀ (st : List (P H)) (x : P H), Ct a st x.1 → 2 ^ x.2.1 ∣ x.1 → Ct a (push nd st x) (x.1 + 2 ^ x.2.1)
 | [], x, h, hd => ⟨rfl, hd, h⟩
 | y :: st, x, h, hd => by
  unfold push
  split
  ·rename_i hc
   have := Qcm nd st (y.1, y.2.1 + 1, nd y.2.2 x.2.2) h.2.2 hc.2
   have e : y.1 + 2 ^ (y.2.1 + 1) = x.1 + 2 ^ x.2.1 := by rw [YP, ← hc.1, ← h.1]; omega
   rw [← e]; exact this
  ·exact ⟨rfl, hd, h⟩
theorem QkR {x : P H} {st : List (P H)} (h : Nf (x :: st)) : Nf st := by
 cases st with
 | nil => trivial
 | cons y st => exact h.2
theorem Qhg (nd : H → H → H) : ∀ (st : List (P H)) (x : P H), Nf st → Nf (push nd st x)
 | [], x, h => trivial
 | y :: st, x, h => by
  unfold push
  split
  ·exact Qhg nd st _ (QkR h)
  ·rename_i hc
   exact ⟨hc, h⟩
def Hs (V : Nat → Nat → H) (st : List (P H)) : Prop := ∀ x ∈ st, x.2.2 = V x.1 x.2.1
theorem Qhr {nd : H → H → H} {V : Nat → Nat → H} {a e : Nat} (hV : ∀ p k, a ≤ p → p + 2 ^ (k + 1) ≤ e → 2 ^ (k + 1) ∣ p → V p (k + 1) = nd (V p k) (V (p + 2 ^ k) k)) : ∀ (st : List (P H)) (x : P H), Ct a st x.1 → x.1 + 2 ^ x.2.1 ≤ e → x.2.2 = V x.1 x.2.1 → Hs V st → Hs V (push nd st x)
 | [], x, hc, he, hx, h => by intro z hz; rw [List.mem_singleton.1 hz]; exact hx
 | y :: st, x, hc, he, hx, h => by
  unfold push
  split
  ·rename_i hm
   have hy := h y (List.mem_cons_self ..)
   have e1 : y.1 + 2 ^ (y.2.1 + 1) = x.1 + 2 ^ x.2.1 := by rw [YP, ← hm.1, ← hc.1]; omega
   have ha : a ≤ y.1 := by
    have : ∀ (st : List (P H)) (q : Nat), Ct a st q → a ≤ q := by
     intro st
     induction st with
     | nil => intro q h; exact Nat.le_of_eq h
     | cons z st ih => intro q h; have h2 := ih _ h.2.2; have h1 : z.1 + 2 ^ z.2.1 = q := h.1; exact Nat.le_trans h2 (by rw [← h1]; exact Nat.le_add_right _ _)
    exact this _ _ hc.2.2
   refine Qhr hV st _ hc.2.2 ?_ ?_ (fun z hz => h z (List.mem_cons_of_mem _ hz))
   ·show y.1 + 2 ^ (y.2.1 + 1) ≤ e
    rw [e1]; exact he
   ·show nd y.2.2 x.2.2 = V y.1 (y.2.1 + 1)
    rw [hV y.1 y.2.1 ha (by rw [e1]; exact he) hm.2, hy, hx, hm.1, ← hc.1, hm.1]
  ·intro z hz
   rcases List.mem_cons.1 hz with rfl | hz
   ·exact hx
   ·exact h z hz
theorem QiE (nd : H → H → H) {a : Nat} (st : List (P H)) (y x : P H) (hc : Ct a st y.1) (hx : x.1 = y.1 + 2 ^ y.2.1) (hk : y.2.1 = x.2.1) (hd : 2 ^ (y.2.1 + 1) ∣ y.1) :
  push nd (push nd st y) x = push nd st (y.1, y.2.1 + 1, nd y.2.2 x.2.2) := by
 have h1 : push nd st y = y :: st := by
  cases st with
  | nil => rfl
  | cons z st =>
   unfold push
   rw [if_neg]
   intro hm
   have hz := hc.1
   have : ¬ 2 ^ (z.2.1 + 1) ∣ y.1 := by rw [← hz]; exact B9 hm.2
   exact this (hm.1 ▸ hd)
 rw [h1]
 conv => lhs; unfold push
 rw [if_pos ⟨hk, hd⟩]
def Kn (nd : H → H → H) (st L : List (P H)) : List (P H) := L.foldl (push nd) st
theorem QeK (nd : H → H → H) : ∀ (L st : List (P H)), Nf st → Nf (Kn nd st L)
 | [], st, h => h
 | x :: L, st, h => QeK nd L _ (Qhg nd st x h)
def Fw : Nat → List (P H) → Nat → Prop
 | a, [], e => a = e
 | a, x :: L, e => x.1 = a ∧ 2 ^ x.2.1 ∣ x.1 ∧ Fw (x.1 + 2 ^ x.2.1) L e
def NfF : List (P H) → Prop
 | [] => True
 | [_] => True
 | x :: y :: L => ¬ (x.2.1 = y.2.1 ∧ 2 ^ (x.2.1 + 1) ∣ x.1) ∧ NfF (y :: L)
theorem QbN : ∀ (L M : List (P H)) (a b c : Nat), Fw a L b → Fw b M c → Fw a (L ++ M) c
 | [], M, a, b, c, h, h' => by cases h; exact h'
 | x :: L, M, a, b, c, h, h' => ⟨h.1, h.2.1, QbN L M _ b c h.2.2 h'⟩
theorem QaG : ∀ (L M : List (P H)) (a c : Nat), Fw a (L ++ M) c → ∃ b, Fw a L b ∧ Fw b M c
 | [], M, a, c, h => ⟨a, rfl, h⟩
 | x :: L, M, a, c, h => by
  obtain ⟨b, h1, h2⟩ := QaG L M _ c h.2.2
  exact ⟨b, ⟨h.1, h.2.1, h1⟩, h2⟩
theorem Wi : ∀ (L : List (P H)) (a e : Nat), Fw a L e → a + L.length ≤ e
 | [], a, e, h => by cases h; simp
 | x :: L, a, e, h => by
  have := Wi L _ _ h.2.2
  have := h.1
  have := J2 x.2.1
  simp only [List.length_cons]; omega
theorem QjA : ∀ (st : List (P H)) (a e : Nat), Ct a st e → Fw a st.reverse e
 | [], a, e, h => h
 | x :: st, a, e, h => by
  rw [List.reverse_cons]
  exact QbN _ _ _ _ _ (QjA st a _ h.2.2) ⟨rfl, h.2.1, h.1⟩
theorem Qhe : ∀ (L : List (P H)) (y x : P H), NfF (L ++ [y]) → ¬ (y.2.1 = x.2.1 ∧ 2 ^ (y.2.1 + 1) ∣ y.1) → NfF (L ++ [y, x])
 | [], y, x, h, hn => ⟨hn, trivial⟩
 | [z], y, x, h, hn => ⟨h.1, hn, trivial⟩
 | z :: w :: L, y, x, h, hn => ⟨h.1, Qhe (w :: L) y x h.2 hn⟩
theorem QgZ : ∀ (st : List (P H)), Nf st → NfF st.reverse
 | [], _ => trivial
 | [x], _ => trivial
 | x :: y :: st, h => by
  rw [List.reverse_cons, List.reverse_cons, List.append_assoc]
  exact Qhe _ y x (by rw [← List.reverse_cons]; exact QgZ (y :: st) h.2) h.1
theorem WN (nd : H → H → H) {a : Nat} : ∀ (L st : List (P H)) (b e : Nat), Ct a st b → Fw b L e → Ct a (Kn nd st L) e
 | [], st, b, e, h, h' => by cases h'; exact h
 | x :: L, st, b, e, h, h' => WN nd L _ _ e (Qcm nd st x (by rw [h'.1]; exact h) h'.2.1) h'.2.2
theorem Qhh {nd : H → H → H} {V : Nat → Nat → H} {a E : Nat} (hV : ∀ p k, a ≤ p → p + 2 ^ (k + 1) ≤ E → 2 ^ (k + 1) ∣ p → V p (k + 1) = nd (V p k) (V (p + 2 ^ k) k)) : ∀ (L st : List (P H)) (b e : Nat), Ct a st b → Fw b L e → e ≤ E → Hs V st → Hs V L → Hs V (Kn nd st L)
 | [], st, b, e, h, h', he, hs, hl => hs
 | x :: L, st, b, e, h, h', he, hs, hl => by
  have hle := Wi L _ _ h'.2.2
  exact Qhh hV L _ _ e (Qcm nd st x (by rw [h'.1]; exact h) h'.2.1) h'.2.2 he (Qhr hV st x (by rw [h'.1]; exact h) (by omega) (hl x (List.mem_cons_self ..)) hs) (fun z hz => hl z (List.mem_cons_of_mem _ hz))
theorem Qdh (nd : H → H → H) : ∀ (L : List (P H)) (st : List (P H)), NfF L → (∀ y ∈ st.head?, ∀ x ∈ L.head?, ¬ (y.2.1 = x.2.1 ∧ 2 ^ (y.2.1 + 1) ∣ y.1)) → Kn nd st L = L.reverse ++ st
 | [], st, h, hh => rfl
 | x :: L, st, h, hh => by
  have h1 : push nd st x = x :: st := by
   cases st with
   | nil => rfl
   | cons y st =>
    unfold push
    rw [if_neg (hh y rfl x rfl)]
  show Kn nd (push nd st x) L = _
  rw [h1, Qdh nd L (x :: st) (by cases L with | nil => trivial | cons z L => exact h.2) (by
   intro y hy z hz
   cases hy
   cases L with
   | nil => cases hz
   | cons w L => cases hz; exact h.1)]
  simp
theorem Qgx (nd : H → H → H) {a b e : Nat} (L M : List (P H)) (y x : P H) (st : List (P H)) (hc : Ct a st b) (hf : Fw b (L ++ y :: x :: M) e) (hk : y.2.1 = x.2.1) (hd : 2 ^ (y.2.1 + 1) ∣ y.1) :
  Kn nd st (L ++ y :: x :: M) = Kn nd st (L ++ (y.1, y.2.1 + 1, nd y.2.2 x.2.2) :: M) := by
 obtain ⟨c, h1, h2⟩ := QaG _ _ _ _ hf
 unfold Kn
 rw [List.foldl_append, List.foldl_append]
 simp only [List.foldl_cons]
 rw [QiE nd (a := a) _ y x (by rw [h2.1]; exact WN nd L st b c hc h1) h2.2.2.1 hk hd]
def qg (a d k : Nat) : Prop := 2 ^ k ≤ d ∧ 2 ^ k ∣ a ∧ ¬ (2 ^ (k + 1) ≤ d ∧ 2 ^ (k + 1) ∣ a)
theorem Qhf {a d k k' : Nat} (h : qg a d k) (h' : 2 ^ k' ≤ d ∧ 2 ^ k' ∣ a) : k' ≤ k := by
 apply Decidable.byContradiction
 intro hc
 apply h.2.2
 exact ⟨Nat.le_trans (Nat.pow_le_pow_right (by omega) (by omega)) h'.1, Nat.dvd_trans (Uw (by omega)) h'.2⟩
theorem qB {a d k k' : Nat} (h : qg a d k) (h' : qg a d k') : k = k' :=
 Nat.le_antisymm (Qhf h' ⟨h.1, h.2.1⟩) (Qhf h ⟨h'.1, h'.2.1⟩)
def Seg : Nat → Nat → List Nat → Prop
 | a, e, [] => a = e
 | a, e, k :: ks => a < e ∧ qg a (e - a) k ∧ Seg (a + 2 ^ k) e ks
theorem Qf3 : ∀ (ks ks' : List Nat) (a e : Nat), Seg a e ks → Seg a e ks' → ks = ks'
 | [], [], a, e, h, h' => rfl
 | [], k :: ks, a, e, h, h' => by have := h'.1; have h : a = e := h; omega
 | k :: ks, [], a, e, h, h' => by have := h.1; have h : a = e := h'; omega
 | k :: ks, k' :: ks', a, e, h, h' => by
  have := qB h.2.1 h'.2.1
  subst this
  rw [Qf3 ks ks' _ e h.2.2 h'.2.2]
theorem QgL : ∀ (ks : List Nat) (a e : Nat), Seg a e ks → a + ks.length ≤ e
 | [], a, e, h => by have h : a = e := h; simp; omega
 | k :: ks, a, e, h => by
  have := QgL ks _ _ h.2.2
  have := J2 k
  simp only [List.length_cons]; omega
theorem Qgu : ∀ (s p e : Nat) (x : P H) (L : List (P H)), Fw p (x :: L) e → NfF (x :: L) → 2 ^ s ∣ p → ¬ 2 ^ (s + 1) ∣ p → p + 2 ^ s ≤ e → x.2.1 = s := by
 intro s
 induction s using Nat.strongRecOn with
 | ind s ih =>
  intro p e x L hf hn hd hnd hle
  have hx := hf.1
  have hxd := hf.2.1
  have hle' : x.2.1 ≤ s := by
   apply Decidable.byContradiction
   intro hc
   exact hnd (Nat.dvd_trans (Uw (by omega)) (hx ▸ hxd))
  rcases Nat.lt_or_ge x.2.1 s with hlt | hge
  ·exfalso
   have hd2 : 2 ^ (x.2.1 + 1) ∣ x.1 := by rw [hx]; exact Nat.dvd_trans (Uw (by omega)) hd
   have hp : 2 ^ x.2.1 < 2 ^ s := Nat.pow_lt_pow_right (by omega) hlt
   have hp2 : 2 ^ (x.2.1 + 1) ≤ 2 ^ s := Nat.pow_le_pow_right (by omega) (by omega)
   have hps := YP x.2.1
   cases L with
   | nil =>
    have h2 : x.1 + 2 ^ x.2.1 = e := hf.2.2
    omega
   | cons y L =>
    have hy := ih x.2.1 hlt (x.1 + 2 ^ x.2.1) e y L hf.2.2 hn.2 (Nat.dvd_add (hxd) (Nat.dvd_refl _)) (B9 hd2) (by omega)
    exact hn.1 ⟨hy.symm, hd2⟩
  ·omega
theorem Uj : ∀ (L : List (P H)) (a e : Nat), Fw a L e → NfF L → Seg a e (L.map (fun x => x.2.1))
 | [], a, e, hf, hn => hf
 | x :: L, a, e, hf, hn => by
  have hle := Wi L _ _ hf.2.2
  have hx := hf.1
  have hp := J2 x.2.1
  show a < e ∧ qg a (e - a) x.2.1 ∧ Seg (a + 2 ^ x.2.1) e (L.map (fun x => x.2.1))
  refine ⟨by omega, ⟨by omega, hx ▸ hf.2.1, ?_⟩, ?_⟩
  ·rintro ⟨h1, h2⟩
   have hps := YP x.2.1
   cases L with
   | nil => have h3 : x.1 + 2 ^ x.2.1 = e := hf.2.2; omega
   | cons y L =>
    rw [← hx] at h2
    have hy := Qgu x.2.1 (x.1 + 2 ^ x.2.1) e y L hf.2.2 hn.2 (Nat.dvd_add hf.2.1 (Nat.dvd_refl _)) (B9 h2) (by omega)
    exact hn.1 ⟨hy.symm, h2⟩
  ·have := Uj L _ e hf.2.2 (by cases L with | nil => trivial | cons y L => exact hn.2)
   rw [hx] at this
   exact this
theorem Qlf {a e k j : Nat} (h : qg a (e - a) k) (h2 : qg (a + 2 ^ k) (e - (a + 2 ^ k)) j) (hl : a + 2 ^ k < e) : ¬ (k = j ∧ 2 ^ (k + 1) ∣ a) := by
 rintro ⟨rfl, hd⟩
 refine h.2.2 ⟨?_, hd⟩
 have := h2.1
 have := YP k
 omega
def lay : Nat → List Nat → List H → List (P H)
 | a, k :: ks, h :: hs => (a, k, h) :: lay (a + 2 ^ k) ks hs
 | _, _, _ => []
theorem QjC : ∀ (ks : List Nat) (hs : List H) (a e : Nat), Seg a e ks → ks.length = hs.length → Fw a (lay a ks hs) e
 | [], [], a, e, h, hl => h
 | k :: ks, h :: hs, a, e, hg, hl => ⟨rfl, hg.2.1.2.1, QjC ks hs _ e hg.2.2 (by simpa using hl)⟩
theorem Qjo : ∀ (ks : List Nat) (hs : List H) (a e : Nat), Seg a e ks → ks.length = hs.length → NfF (lay a ks hs)
 | [], [], a, e, h, hl => trivial
 | [k], [h], a, e, hg, hl => trivial
 | k :: j :: ks, h :: h' :: hs, a, e, hg, hl => ⟨Qlf hg.2.1 hg.2.2.2.1 hg.2.2.1, Qjo (j :: ks) (h' :: hs) _ e hg.2.2 (by simpa using hl)⟩
theorem Qla : ∀ (ks : List Nat) (hs : List H) (a : Nat), ks.length = hs.length → (lay a ks hs).map (fun x => x.2.1) = ks
 | [], [], a, hl => rfl
 | k :: ks, h :: hs, a, hl => by
  show k :: _ = _
  rw [show List.map (fun x => x.2.1) (lay (a + 2 ^ k) ks hs) = ks from Qla ks hs _ (by simpa using hl)]
theorem Qk4 : ∀ (ks : List Nat) (hs : List H) (a : Nat), ks.length = hs.length → (lay a ks hs).map (fun x => x.2.2) = hs
 | [], [], a, hl => rfl
 | k :: ks, h :: hs, a, hl => by
  show h :: _ = _
  rw [show List.map (fun x => x.2.2) (lay (a + 2 ^ k) ks hs) = hs from Qk4 ks hs _ (by simpa using hl)]
theorem QgF : ∀ (L : List (P H)) (a e : Nat), Fw a L e → lay a (L.map (fun x => x.2.1)) (L.map (fun x => x.2.2)) = L
 | [], a, e, h => rfl
 | x :: L, a, e, h => by
  obtain ⟨p, k, q⟩ := x
  have h1 : p = a := h.1
  subst h1
  show (p, k, q) :: lay (p + 2 ^ k) _ _ = _
  rw [QgF L _ e h.2.2]
theorem BF : ∀ (ks : List Nat) (a e j : Nat), Seg a e ks → (∀ i, 2 ^ i ≤ e - a → 2 ^ i ∣ a) → e - a < 2 ^ j → ks.length ≤ j
 | [], a, e, j, h, ha, hj => by simp
 | k :: ks, a, e, j, h, ha, hj => by
  have hk := h.2.1
  have hd : e - a < 2 ^ (k + 1) := by
   apply Decidable.byContradiction
   intro hc
   exact hk.2.2 ⟨by omega, ha _ (by omega)⟩
  have hps := YP k
  have hkj : k < j := (Nat.pow_lt_pow_iff_right (a := 2) (by omega)).1 (Nat.lt_of_le_of_lt hk.1 hj)
  have := BF ks (a + 2 ^ k) e k h.2.2 (fun i hi => by
   have h1 : 2 ^ i < 2 ^ k := by have := hk.1; omega
   have h2 : i < k := (Nat.pow_lt_pow_iff_right (a := 2) (by omega)).1 h1
   exact Nat.dvd_add (ha i (by have := hk.1; omega)) (Uw (by omega))) (by have := hk.1; omega)
  simp only [List.length_cons]; omega
theorem Qhp : ∀ (ks : List Nat) (a e i j : Nat), Seg a e ks → 2 ^ i ∣ a → i ≤ j → e - a < 2 ^ j → ks.length ≤ (j - i) + j
 | [], a, e, i, j, h, ha, hi, hj => by simp
 | k :: ks, a, e, i, j, h, ha, hi, hj => by
  have hk := h.2.1
  have hkj : k < j := (Nat.pow_lt_pow_iff_right (a := 2) (by omega)).1 (Nat.lt_of_le_of_lt hk.1 hj)
  by_cases hd : 2 ^ (k + 1) ∣ a
  ·have := BF (k :: ks) a e j h (fun m hm => by
    have : m ≤ k := by
     apply Decidable.byContradiction
     intro hc
     exact hk.2.2 ⟨Nat.le_trans (Nat.pow_le_pow_right (by omega) (by omega)) hm, hd⟩
    exact Nat.dvd_trans (Uw this) hk.2.1) hj
   omega
  ·have hik : i ≤ k := by
    apply Decidable.byContradiction
    intro hc
    exact hd (Nat.dvd_trans (Uw (by omega)) ha)
   have := Qhp ks (a + 2 ^ k) e (k + 1) j h.2.2 (QcV hk.2.1 hd) (by omega) (by omega)
   simp only [List.length_cons]; omega
theorem Ql3 {ks : List Nat} {a e : Nat} (h : Seg a e ks) (he : e ≤ 2147483647) : ks.length ≤ 62 := by
 have := Qhp ks a e 0 31 h (by simp) (by omega) (by omega)
 omega
theorem QfG (a d : Nat) (hd : 0 < d) : ∃ k, qg a d k := by
 have : ∀ (n k : Nat), 2 ^ k ≤ d → 2 ^ k ∣ a → d < 2 ^ (k + n) → ∃ k, qg a d k := by
  intro n
  induction n with
  | zero => intro k h1 h2 h3; exact absurd h3 (by simpa using h1)
  | succ n ih =>
   intro k h1 h2 h3
   by_cases h : 2 ^ (k + 1) ≤ d ∧ 2 ^ (k + 1) ∣ a
   ·exact ih (k + 1) h.1 h.2 (by rw [show k + 1 + n = k + (n + 1) by omega]; exact h3)
   ·exact ⟨k, h1, h2, h⟩
 exact this d 0 (by rw [Nat.pow_zero]; omega) (by simp) (by rw [Nat.zero_add]; exact Nat.lt_pow_self (by omega))
theorem Qdr : ∀ (n a e : Nat), a ≤ e → e - a ≤ n → ∃ ks, Seg a e ks := by
 intro n
 induction n with
 | zero => intro a e h hn; exact ⟨[], by show a = e; omega⟩
 | succ n ih =>
  intro a e h hn
  by_cases hl : a < e
  ·obtain ⟨k, hk⟩ := QfG a (e - a) (by omega)
   have := J2 k
   have := hk.1
   obtain ⟨ks, hks⟩ := ih (a + 2 ^ k) e (by omega) (by omega)
   exact ⟨k :: ks, hl, hk, hks⟩
  ·exact ⟨[], by show a = e; omega⟩
end Go.Sl.Fr
set_option maxRecDepth 20000
namespace Go.Sl
theorem QlM (a k : Nat) (hk : k ≤ 64) (h : a * 2 ^ k < 9223372036854775808) : XG (a : Int) (k : Int) = ((a * 2 ^ k : Nat) : Int) := by
 unfold XG
 rw [Int.toNat_natCast, Nat.min_eq_left hk]
 have : ((2 : Int) ^ k) = ((2 ^ k : Nat) : Int) := by simp
 rw [this, ← Int.natCast_mul, qD h]
namespace Pu
open Go.Sl Go.Sl.M Go.Sl.Fr
theorem Qmb : ∀ i : Fin 256, ∃ h : i.val < S_0.length, (i.val = 0 ∨ 2 ^ ((S_0[i.val]'h).toNat - 1) ≤ i.val) ∧ i.val < 2 ^ (S_0[i.val]'h).toNat ∧ (i.val ≠ 0 → 1 ≤ (S_0[i.val]'h).toNat) ∧ (S_0[i.val]'h).toNat ≤ 8 := by decide
theorem Qg7 (x : BitVec 64) (n : Nat) (hx : x.toNat = n) (h : n < 256) : ∃ r : BitVec 8, JW S_0 ((x.setWidth 8).toNat : Int) = some r ∧ (n = 0 ∨ 2 ^ (r.toNat - 1) ≤ n) ∧ n < 2 ^ r.toNat ∧ (n ≠ 0 → 1 ≤ r.toNat) ∧ r.toNat ≤ 8 := by
 have e : (x.setWidth 8).toNat = n := by
  rw [BitVec.toNat_setWidth, hx]; exact Nat.mod_eq_of_lt (by omega)
 obtain ⟨h1, h2, h3, h4, h5⟩ := Qmb ⟨n, h⟩
 refine ⟨S_0[n], Jm (by rw [e]) h1, h2, h3, h4, h5⟩
theorem QeP {n s r : Nat} (hr : 1 ≤ r) (h1 : 2 ^ (r - 1) ≤ n / 2 ^ s) (h2 : n / 2 ^ s < 2 ^ r) : 2 ^ (r + s - 1) ≤ n ∧ n < 2 ^ (r + s) := by
 constructor
 ·rw [show r + s - 1 = (r - 1) + s by omega, Nat.pow_add]
  exact (Nat.le_div_iff_mul_le (J2 s)).1 h1
 ·rw [Nat.pow_add]
  exact (Nat.div_lt_iff_lt_mul (J2 s)).1 h2
theorem Qlh (n : Nat) (h0 : 0 < n) (h : n < 4294967296) : ∃ r : Nat, Kw (BitVec.ofInt 64 (n : Int)) = some (r : Int) ∧ 1 ≤ r ∧ r ≤ 32 ∧ 2 ^ (r - 1) ≤ n ∧ n < 2 ^ r := by
 have e0 : BitVec.ofInt 64 (n : Int) = BitVec.ofNat 64 n := by apply BitVec.eq_of_toNat_eq; simp
 have ex : (BitVec.ofNat 64 n).toNat = n := by rw [BitVec.toNat_ofNat]; exact Nat.mod_eq_of_lt (by omega)
 rw [e0]
 generalize hx : BitVec.ofNat 64 n = x at ex
 unfold Kw
 suffices hs : ∃ r : Nat, Vw x = some (r : Int) ∧ 1 ≤ r ∧ r ≤ 32 ∧ 2 ^ (r - 1) ≤ n ∧ n < 2 ^ r by
  obtain ⟨r, h1, h2⟩ := hs
  exact ⟨r, by rw [Qc h1], h2⟩
 unfold Vw
 rw [QU (by rw [decide_eq_true_eq, BitVec.le_def, ex]; show ¬ 4294967296 ≤ n; omega), Option.bind_some]
 by_cases h16 : 65536 ≤ n
 ·have e1 : (x >>> 16).toNat = n / 2 ^ 16 := by rw [BitVec.toNat_ushiftRight, ex, Nat.shiftRight_eq_div_pow]
  rw [QI (by rw [decide_eq_true_eq, BitVec.le_def, ex]; show 65536 ≤ n; omega), Option.bind_some]
  by_cases h8 : 256 ≤ n / 2 ^ 16
  ·have e2 : (x >>> 16 >>> 8).toNat = n / 2 ^ 24 := by rw [BitVec.toNat_ushiftRight, e1, Nat.shiftRight_eq_div_pow, Nat.div_div_eq_div_mul]
   obtain ⟨r, h1, h2, h3, h4, h5⟩ := Qg7 (x >>> 16 >>> 8) _ e2 (by omega)
   have hne : n / 2 ^ 24 ≠ 0 := by omega
   have hr := h4 hne
   rw [QI (by rw [decide_eq_true_eq, BitVec.le_def, e1]; show 256 ≤ n / 2 ^ 16; omega), Option.bind_some, Qc h1]
   refine ⟨r.toNat + 24, ?_, by omega, by omega, ?_⟩
   ·rw [Ji (n := 0 + 16) (by omega) (by omega), Ji (n := 0 + 16 + 8) (by omega) (by omega), Ji (by omega) (by omega)]
    refine congrArg some ?_; omega
   ·have := QeP (s := 24) hr (h2.resolve_left hne) h3
    exact this
  ·obtain ⟨r, h1, h2, h3, h4, h5⟩ := Qg7 (x >>> 16) _ e1 (by omega)
   have hne : n / 2 ^ 16 ≠ 0 := by omega
   have hr := h4 hne
   rw [QU (by rw [decide_eq_true_eq, BitVec.le_def, e1]; show ¬ 256 ≤ n / 2 ^ 16; omega), Option.bind_some, Qc h1]
   refine ⟨r.toNat + 16, ?_, by omega, by omega, ?_⟩
   ·rw [Ji (n := 0 + 16) (by omega) (by omega), Ji (by omega) (by omega)]
    refine congrArg some ?_; omega
   ·have := QeP (s := 16) hr (h2.resolve_left hne) h3
    exact this
 ·rw [QU (by rw [decide_eq_true_eq, BitVec.le_def, ex]; show ¬ 65536 ≤ n; omega), Option.bind_some]
  by_cases h8 : 256 ≤ n
  ·have e2 : (x >>> 8).toNat = n / 2 ^ 8 := by rw [BitVec.toNat_ushiftRight, ex, Nat.shiftRight_eq_div_pow]
   obtain ⟨r, h1, h2, h3, h4, h5⟩ := Qg7 (x >>> 8) _ e2 (by omega)
   have hne : n / 2 ^ 8 ≠ 0 := by omega
   have hr := h4 hne
   rw [QI (by rw [decide_eq_true_eq, BitVec.le_def, ex]; show 256 ≤ n; omega), Option.bind_some, Qc h1]
   refine ⟨r.toNat + 8, ?_, by omega, by omega, ?_⟩
   ·rw [Ji (n := 0 + 8) (by omega) (by omega), Ji (by omega) (by omega)]
    refine congrArg some ?_; omega
   ·have := QeP (s := 8) hr (h2.resolve_left hne) h3
    exact this
  ·obtain ⟨r, h1, h2, h3, h4, h5⟩ := Qg7 x _ ex (by omega)
   have hr := h4 (by omega)
   rw [QU (by rw [decide_eq_true_eq, BitVec.le_def, ex]; show ¬ 256 ≤ n; omega), Option.bind_some, Qc h1]
   refine ⟨r.toNat, ?_, by omega, by omega, h2.resolve_left (by omega), h3⟩
   rw [Ji (by omega) (by omega)]
   refine congrArg some ?_; omega
theorem QfK (a b j : Nat) (h : a + b + 1 = 2 ^ j) : (2 * a + 1) &&& (2 * b + 1) = 1 := by
 apply Nat.eq_of_testBit_eq
 intro i
 rw [Nat.testBit_and]
 cases i with
 | zero => simp [Nat.testBit_zero]
 | succ i =>
  have hb : b = 2 ^ j - (a + 1) := by omega
  have ha : a < 2 ^ j := by omega
  have e1 : (2 * a + 1).testBit (i + 1) = a.testBit i := by rw [Nat.testBit_succ]; congr 1; omega
  have e2 : (2 * b + 1).testBit (i + 1) = b.testBit i := by rw [Nat.testBit_succ]; congr 1; omega
  rw [e1, e2, hb, Nat.testBit_two_pow_sub_succ ha]
  rw [show Nat.testBit 1 (i + 1) = false from by rw [Nat.testBit_succ]; simp]
  cases a.testBit i <;> simp
theorem Qh3 (n : Nat) (h : 0 < n) : ∃ k m, n = 2 ^ k * (2 * m + 1) := by
 induction n using Nat.strongRecOn with
 | ind n ih =>
  by_cases ho : n % 2 = 1
  ·exact ⟨0, n / 2, by omega⟩
  ·obtain ⟨k, m, hk⟩ := ih (n / 2) (by omega) (by omega)
   refine ⟨k + 1, m, ?_⟩
   rw [Nat.pow_succ, Nat.mul_comm (2 ^ k) 2, Nat.mul_assoc, ← hk]; omega
theorem Qkn (x : BitVec 64) (k m : Nat) (h : x.toNat = 2 ^ k * (2 * m + 1)) : x &&& (-x) = BitVec.ofNat 64 (2 ^ k) ∧ k < 64 := by
 have hx := x.isLt
 have hk : k < 64 := by
  apply Decidable.byContradiction
  intro hc
  have h1 : 2 ^ 64 ≤ 2 ^ k := Nat.pow_le_pow_right (by omega) (by omega)
  have h2 : 2 ^ k * 1 ≤ 2 ^ k * (2 * m + 1) := Nat.mul_le_mul_left _ (by omega)
  omega
 refine ⟨?_, hk⟩
 apply BitVec.eq_of_toNat_eq
 have hp : (2 : Nat) ^ 64 = 2 ^ k * 2 ^ (64 - k) := by rw [← Nat.pow_add]; congr 1; omega
 have hp2 : (2 : Nat) ^ (64 - k) = 2 * 2 ^ (63 - k) := by rw [show 64 - k = (63 - k) + 1 by omega, Nat.pow_succ]; omega
 have hm : 2 * m + 1 < 2 ^ (64 - k) := by
  have : 2 ^ k * (2 * m + 1) < 2 ^ k * 2 ^ (64 - k) := by rw [← hp, ← h]; exact hx
  exact Nat.lt_of_mul_lt_mul_left this
 have hneg : (-x).toNat = 2 ^ k * (2 * (2 ^ (63 - k) - 1 - m) + 1) := by
  have h0 : 0 < x.toNat := by rw [h]; exact Nat.mul_pos (J2 k) (by omega)
  rw [BitVec.toNat_neg, Nat.mod_eq_of_lt (by omega), h, hp, ← Nat.mul_sub]
  congr 1; omega
 rw [BitVec.toNat_and, h, hneg, BitVec.toNat_ofNat, Nat.mod_eq_of_lt (Nat.pow_lt_pow_right (by omega) hk)]
 rw [Nat.mul_comm, Nat.mul_comm (2 ^ k), ← Nat.shiftLeft_eq, ← Nat.shiftLeft_eq, ← Nat.shiftLeft_and_distrib, QfK m (2 ^ (63 - k) - 1 - m) (63 - k) (by omega), Nat.shiftLeft_eq, Nat.one_mul]
theorem Qlo : ∀ k : Fin 64, ∃ h : (((BitVec.ofNat 64 (2 ^ k.val)) * (285870213051353865#64)) >>> 58).toNat < 64, (Zs[(((BitVec.ofNat 64 (2 ^ k.val)) * (285870213051353865#64)) >>> 58).toNat]'h).toNat = k.val := by decide
theorem QlQ (a : Nat) (h0 : 0 < a) (ha : a < 9223372036854775808) : ∃ k : Nat, Yp (BitVec.ofInt 64 (a : Int)) = some (k : Int) ∧ k < 64 ∧ 2 ^ k ∣ a ∧ ¬ 2 ^ (k + 1) ∣ a := by
 have e0 : BitVec.ofInt 64 (a : Int) = BitVec.ofNat 64 a := by apply BitVec.eq_of_toNat_eq; simp
 have ex : (BitVec.ofNat 64 a).toNat = a := by rw [BitVec.toNat_ofNat]; exact Nat.mod_eq_of_lt (by omega)
 rw [e0]
 generalize hx : BitVec.ofNat 64 a = x at ex
 obtain ⟨k, m, hk⟩ := Qh3 a h0
 obtain ⟨h1, h2⟩ := Qkn x k m (by rw [ex, hk])
 refine ⟨k, ?_, h2, ⟨_, hk⟩, ?_⟩
 ·unfold Yp
  have : Z5 x = some (k : Int) := by
   unfold Z5
   rw [QU (by rw [decide_eq_true_eq]; intro h; rw [h] at ex; simp at ex; omega), h1]
   obtain ⟨h3, h4⟩ := Qlo ⟨k, h2⟩
   rw [Qc (Qho rfl h3)]
   exact congrArg (fun n : Nat => some (n : Int)) h4
  rw [Qc this]
 ·rintro ⟨c, hc⟩
  rw [hk, Nat.pow_succ, Nat.mul_assoc] at hc
  have := Nat.eq_of_mul_eq_mul_left (J2 k) hc
  omega
def p2 (k : Nat) : Int := ((2 ^ k : Nat) : Int)
theorem Qdy {k n : Nat} (h : 2 ^ k ≤ n) (hn : n ≤ 2147483647) : k < 31 := by
 apply Decidable.byContradiction
 intro hc
 have : 2 ^ 31 ≤ 2 ^ k := Nat.pow_le_pow_right (by omega) (by omega)
 omega
theorem QgI (a e k : Nat) (hl : a < e) (he : e ≤ 2147483647) (h : qg a (e - a) k) : Xy (a : Int) (e : Int) = some (p2 k) := by
 unfold Xy
 obtain ⟨r, h1, h2, h3, h4, h5⟩ := Qlh (e - a) (by omega) (by omega)
 rw [Ji (n := (e : Int) - (a : Int)) (by omega) (by omega), show (e : Int) - (a : Int) = ((e - a : Nat) : Int) by omega, Qc h1, Ji (n := (r : Int) - 1) (by omega) (by omega), show (r : Int) - 1 = ((r - 1 : Nat) : Int) by omega, QI (by omega)]
 have hs : ∀ j : Nat, j ≤ 62 → XG (1 : Int) (j : Int) = p2 j := fun j hj => by
  have : 2 ^ j ≤ 2 ^ 62 := Nat.pow_le_pow_right (by omega) hj
  have := QlM 1 j (by omega) (by rw [Nat.one_mul]; omega)
  rw [Nat.one_mul] at this
  exact this
 have hr31 : r - 1 < 31 := Qdy h4 (by omega)
 by_cases h0 : 0 < a
 ·rw [QI (by rw [decide_eq_true_eq]; omega)]
  obtain ⟨z, z1, z2, z3, z4⟩ := QlQ a h0 (by omega)
  have hz : 2 ^ z ≤ a := Nat.le_of_dvd h0 z3
  have hz31 : z < 31 := Qdy hz (by omega)
  rw [Qc z1, QI (by omega), hs z (by omega), hs (r - 1) (by omega), Option.bind_some]
  by_cases hc : z < r - 1
  ·have : 2 ^ z < 2 ^ (r - 1) := Nat.pow_lt_pow_right (by omega) hc
   rw [QI (by unfold p2; omega)]
   have : qg a (e - a) z := ⟨by omega, z3, fun hh => z4 hh.2⟩
   rw [qB this h]
  ·have : 2 ^ (r - 1) ≤ 2 ^ z := Nat.pow_le_pow_right (by omega) (by omega)
   rw [QU (by unfold p2; omega)]
   have : qg a (e - a) (r - 1) := ⟨h4, Nat.dvd_trans (Uw (by omega)) z3, fun hh => by
    have := hh.1; rw [show r - 1 + 1 = r by omega] at this; omega⟩
   rw [qB this h]
 ·rw [QU (by rw [decide_eq_true_eq]; omega), hs (r - 1) (by omega)]
  have : qg a (e - a) (r - 1) := ⟨h4, by rw [show a = 0 by omega]; exact Nat.dvd_zero _, fun hh => by
    have := hh.1; rw [show r - 1 + 1 = r by omega] at this; omega⟩
  rw [qB this h]
theorem Bc (a m : Nat) : (Int.tmod (a : Int) (m : Int) = 0) ↔ m ∣ a := by
 rw [show Int.tmod (a : Int) (m : Int) = ((a % m : Nat) : Int) from rfl]
 rw [Nat.dvd_iff_mod_eq_zero]; omega
theorem Ql7 (a e k : Nat) (hl : a < e) (he : e ≤ 2147483647) (h : qg a (e - a) k) : Y8 (a : Int) (e : Int) = some (p2 k) := by
 unfold Y8
 have key : ∀ (n j : Nat), j + n = k → 2 ^ j ≤ e - a → ∀ fuel, n < fuel → Q3 (fun (s : Int) => ZN (e : Int) (a : Int) s) fuel (p2 j) = some (p2 k) := by
  intro n
  induction n with
  | zero =>
   intro j hj hle fuel hf
   obtain ⟨fuel, rfl⟩ : ∃ m, fuel = m + 1 := ⟨fuel - 1, by omega⟩
   have hjk : j = k := by omega
   subst hjk
   apply YM
   simp only [ZN]
   have hps := YP j
   have hp := J2 j
   have e1 : w64 ((2 : Int) * p2 j) = ((2 ^ (j + 1) : Nat) : Int) := by unfold p2; rw [Ji (by omega) (by omega)]; omega
   have e2 : w64 ((e : Int) - (a : Int)) = ((e - a : Nat) : Int) := by rw [Ji (by omega) (by omega)]; omega
   rw [e1, e2]
   by_cases hc : 2 ^ (j + 1) ≤ e - a
   ·rw [QI (by rw [decide_eq_true_eq]; omega), QI (by omega), Option.bind_some, QU (by rw [decide_eq_true_eq, Bc]; intro hd; exact h.2.2 ⟨hc, hd⟩)]
   ·rw [QU (by rw [decide_eq_true_eq]; omega), Option.bind_some, QU (by decide)]
  | succ n ih =>
   intro j hj hle fuel hf
   obtain ⟨fuel, rfl⟩ : ∃ m, fuel = m + 1 := ⟨fuel - 1, by omega⟩
   have hps := YP j
   have hp := J2 j
   have hjk : 2 ^ (j + 1) ≤ 2 ^ k := Nat.pow_le_pow_right (by omega) (by omega)
   have hd : 2 ^ (j + 1) ∣ a := Nat.dvd_trans (Uw (by omega)) h.2.1
   have hk1 := h.1
   have e1 : w64 ((2 : Int) * p2 j) = ((2 ^ (j + 1) : Nat) : Int) := by unfold p2; rw [Ji (by omega) (by omega)]; omega
   have e2 : w64 ((e : Int) - (a : Int)) = ((e - a : Nat) : Int) := by rw [Ji (by omega) (by omega)]; omega
   rw [Yx (s' := p2 (j + 1))]
   ·exact ih (j + 1) (by omega) (by omega) fuel (by omega)
   ·simp only [ZN]
    rw [e1, e2, QI (by rw [decide_eq_true_eq]; omega), QI (by omega), Option.bind_some, QI (by rw [decide_eq_true_eq, Bc]; exact hd)]
    rfl
 have hk31 : k < 31 := Qdy h.1 (by omega)
 have h1 := key k 0 (by omega) (by rw [Nat.pow_zero]; omega) FU (J4 (by omega))
 have h1' : Q3 (fun (s : Int) => ZN (e : Int) (a : Int) s) FU (1 : Int) = some (p2 k) := h1
 rw [Qc h1']
end Pu
end Go.Sl
set_option maxRecDepth 20000
namespace Go.Sl.Pu
open Go.Sl Go.Sl.M Go.Sl.Fr
noncomputable def WY (a e : Nat) : List Nat := if h : a ≤ e then Classical.choose (Qdr (e - a) a e h (Nat.le_refl _)) else []
theorem Wb {a e : Nat} (h : a ≤ e) : Seg a e (WY a e) := by
 unfold WY; rw [dif_pos h]; exact Classical.choose_spec (Qdr (e - a) a e h (Nat.le_refl _))
theorem Qbk {a e : Nat} {ks : List Nat} (h : a ≤ e) (hk : Seg a e ks) : WY a e = ks := Qf3 _ _ _ _ (Wb h) hk
theorem Qjs (a e : Int) : Km a e = some (decide (0 ≤ a ∧ a ≤ e ∧ e ≤ 2147483647)) := by
 unfold Km
 by_cases h1 : 0 ≤ a <;> by_cases h2 : a ≤ e <;> by_cases h3 : e ≤ 2147483647 <;> simp [h1, h2, h3]
theorem QkH (a e : Int) : Vl a e = some (decide (0 ≤ a ∧ a ≤ e ∧ e ≤ 2147483647)) := by
 unfold Vl
 by_cases h1 : 0 ≤ a <;> by_cases h2 : a ≤ e <;> by_cases h3 : e ≤ 2147483647 <;> simp [h1, h2, h3]
theorem VW {n : Nat} (h : n ≤ 4294967296) : n ≤ AP := h
theorem QlC (k : Nat) : 0 < p2 k := by have := J2 k; unfold p2; omega
theorem Qg4 {f : Int × List Int → Option (LR (Int × List Int) Empty)} {g : Int → Int → Option Int} {e : Nat} (hg : ∀ a k : Nat, a < e → qg a (e - a) k → g (a : Int) (e : Int) = some (p2 k)) (he : e ≤ 2147483647)
  (hf : ∀ y1 y2, f (y1, y2) = if (decide (y1 < (e : Int))) = true then (Option.bind (g y1 (e : Int)) fun r2 => if y2.length + ([r2]).length ≤ AP then (some (.next (w64 (y1 + r2), (y2 ++ ([r2]))))) else none) else some (.brk (y1, y2))) :
  ∀ (ks : List Nat) (a : Nat) (acc : List Int) (fuel : Nat), Seg a e ks → acc.length ≤ a → ks.length < fuel → Q3 f fuel ((a : Int), acc) = some ((e : Int), acc ++ ks.map p2) := by
 intro ks
 induction ks with
 | nil =>
  intro a acc fuel h ha hfu
  obtain ⟨fuel, rfl⟩ : ∃ m, fuel = m + 1 := ⟨fuel - 1, by omega⟩
  have h : a = e := h
  subst h
  rw [YM (by rw [hf, QU (by simp)])]; simp
 | cons k ks ih =>
  intro a acc fuel h ha hfu
  obtain ⟨fuel, rfl⟩ : ∃ m, fuel = m + 1 := ⟨fuel - 1, by omega⟩
  simp only [List.length_cons] at hfu
  have hk := h.2.1.1
  have hlt := h.1
  have hp := J2 k
  rw [Yx (s' := (((a + 2 ^ k : Nat) : Int), acc ++ [p2 k])) (by
   rw [hf, QI (by rw [decide_eq_true_eq]; omega), Qc (hg a k hlt h.2.1), QI (VW (by simp; omega))]
   refine congrArg some (congrArg LR.next (Prod.ext ?_ rfl))
   show w64 ((a : Int) + p2 k) = _
   unfold p2
   rw [Ji (by omega) (by omega)]; omega), ih (a + 2 ^ k) (acc ++ [p2 k]) fuel h.2.2 (by simp; omega) (by omega)]
  simp
theorem QbV (a e : Nat) (h : a ≤ e) (he : e ≤ 2147483647) : ZJ (a : Int) (e : Int) = some ((WY a e).map p2) := by
 unfold ZJ
 rw [Qc (Qjs _ _), QU (by simp; omega)]
 have hs := Wb h
 have h1 := Qg4 (f := fun (s : Int × (List Int)) => X2 (e : Int) s.1 s.2) (g := Xy) (fun a k hl hk => QgI a e k hl he hk) he (fun y1 y2 => rfl) (WY a e) a [] FU hs (by simp) (J4 (by have := QgL _ _ _ hs; omega))
 rw [Qc h1]; simp
theorem Bz (a e : Nat) (h : a ≤ e) (he : e ≤ 2147483647) : Zc (a : Int) (e : Int) = some ((WY a e).map p2) := by
 unfold Zc
 rw [Qc (QkH _ _), QU (by simp; omega)]
 have hs := Wb h
 have h1 := Qg4 (f := fun (s : Int × (List Int)) => Y0 (e : Int) s.1 s.2) (g := Y8) (fun a k hl hk => Ql7 a e k hl he hk) he (fun y1 y2 => rfl) (WY a e) a [] FU hs (by simp) (J4 (by have := QgL _ _ _ hs; omega))
 rw [Qc h1]; simp
theorem Qkh (n : Nat) (h : n ≤ 4294967296) : JU (n : Int) = some [] := by
 unfold JU
 rw [QU (by rw [decide_eq_true_eq]; omega), show w64 ((0 : Int) - 0) = 0 from rfl, Ji (n := (n : Int) - 0) (by omega) (by omega), Option.bind_some]
 by_cases h0 : 0 < n
 ·rw [QI (by rw [decide_eq_true_eq]; omega), QI ⟨by omega, by omega⟩, QI ⟨by omega, by omega⟩]; simp
 ·rw [QU (by rw [decide_eq_true_eq]; omega)]
theorem Qii (L : List (List (BitVec 8))) (h : L.flatten.length ≤ 4000000000) (hL : L.length ≤ 1000) : JR L = some L.flatten := by
 unfold JR
 have hpre : ∀ i, i ≤ L.length → (L.take i).flatten.length ≤ 4000000000 := fun i hi => by
  have : L.flatten.length = (L.take i).flatten.length + (L.drop i).flatten.length := by
   rw [← List.length_append, ← List.flatten_append, List.take_append_drop]
  omega
 have hsucc : ∀ i (hi : i < L.length), (L.take (i + 1)).flatten = (L.take i).flatten ++ L[i] := fun i hi => by
  rw [List.take_succ_eq_append_getElem hi, List.flatten_append]; simp
 have h1 := JD (f := fun (s : Int × Int) => Jl L s.1 s.2) (fun i (_ : Unit) => ((((L.take i).flatten.length : Nat) : Int), (i : Int))) (fun _ s => s) 0 L.length (fun i s _ hi => by
  simp only [Jl]
  have h2 := hpre (i + 1) hi
  have h3 : (L.take (i + 1)).flatten.length = (L.take i).flatten.length + L[i].length := by rw [hsucc i hi, List.length_append]
  rw [QI (by rw [decide_eq_true_eq]; omega), Qc (Jm rfl hi), Ji (n := (((L.take i).flatten.length : Nat) : Int) + (L[i].length : Int)) (by omega) (by omega), QU (by rw [decide_eq_true_eq]; omega), Ji (n := (i : Int) + 1) (by omega) (by omega), h3]
  rfl) (fun s => by
  simp only [Jl]
  rw [QU (by rw [decide_eq_true_eq]; omega)]) FU () (by omega) (J4 (by omega))
 have h1' : Q3 (fun (s : Int × Int) => Jl L s.1 s.2) FU ((0 : Int), (0 : Int)) = some ((((L.take L.length).flatten.length : Nat) : Int), (L.length : Int)) := h1
 rw [Qc h1', Qc (Qkh _ (by have := hpre L.length (Nat.le_refl _); omega))]
 have h4 := JD (f := fun (s : Int × (List (BitVec 8))) => Jk L s.1 s.2) (fun i (_ : Unit) => ((i : Int), (L.take i).flatten)) (fun _ s => s) 0 L.length (fun i s _ hi => by
  simp only [Jk]
  have h2 := hpre (i + 1) hi
  have h3 : (L.take (i + 1)).flatten.length = (L.take i).flatten.length + L[i].length := by rw [hsucc i hi, List.length_append]
  rw [QI (by rw [decide_eq_true_eq]; omega), Qc (Jm rfl hi), QI (VW (by omega)), Ji (n := (i : Int) + 1) (by omega) (by omega), hsucc i hi]
  rfl) (fun s => by
  simp only [Jk]
  rw [QU (by rw [decide_eq_true_eq]; omega)]) FU () (by omega) (J4 (by omega))
 have h4' : Q3 (fun (s : Int × (List (BitVec 8))) => Jk L s.1 s.2) FU ((0 : Int), ([] : List (BitVec 8))) = some ((L.length : Int), (L.take L.length).flatten) := h4
 rw [Qc h4', List.take_length]
def txt (a b : Qa) : List (BitVec 8) := 1#8 :: (a.toList ++ b.toList)
def nd (a b : Qa) : Qa := sha (txt a b)
theorem Qa3 (a b : Qa) : (txt a b).length = 65 := by simp [txt]
theorem Qhc (a b : Qa) : VM a b = some (nd a b) := by
 unfold VM
 rw [Qc (Qii _ (by simp) (by simp))]
 have : [[1#8], a.toList, b.toList].flatten = txt a b := by simp [txt]
 rw [this, Qc (QcS _ (by rw [Qa3]; omega))]; rfl
theorem QeM (a b : Qa) : Z9 a b = some (txt a b) := by
 unfold Z9
 rw [QI (VW (by simp)), QI (VW (by simp))]
 simp [txt]
theorem Qdx (a b : Qa) : YF a b = some (nd a b) := by
 unfold YF
 rw [Qc (QeM a b), Qc (QaL _ (by rw [Qa3]; omega))]; rfl
def mp (x : P Qa) : Qu := ((x.1 : Int), p2 x.2.1, x.2.2)
def rv (st : List (P Qa)) : List Qu := st.reverse.map mp
theorem QbO {j k : Nat} : p2 j = p2 k ↔ j = k := by
 constructor
 ·intro h
  rcases Nat.lt_trichotomy j k with hl | hl | hl
  ·have : 2 ^ j < 2 ^ k := Nat.pow_lt_pow_right (by omega) hl
   unfold p2 at h; omega
  ·exact hl
  ·have : 2 ^ k < 2 ^ j := Nat.pow_lt_pow_right (by omega) hl
   unfold p2 at h; omega
 ·intro h; rw [h]
theorem Qdj {a : Nat} {H : Type} : ∀ (st : List (P H)) (e : Nat), Ct a st e → a + st.length ≤ e
 | [], e, h => by have h : a = e := h; simp; omega
 | x :: st, e, h => by
  have := Qdj st _ h.2.2
  have h1 := h.1
  have := J2 x.2.1
  simp only [List.length_cons]; omega
theorem Qej (y : P Qa) (st : List (P Qa)) : rv (y :: st) = rv st ++ [mp y] := by simp [rv]
theorem QbK (st : List (P Qa)) : (rv st).length = st.length := by simp [rv]
theorem Qls {a : Nat} (st : List (P Qa)) (x : P Qa) (hc : Ct a st x.1) (hx : x.1 + 2 ^ x.2.1 ≤ 2147483647) : XA (rv st) (mp x) = some (rv (push nd st x)) := by
 unfold XA
 have key : ∀ (st : List (P Qa)) (x : P Qa) (fuel : Nat), Ct a st x.1 → x.1 + 2 ^ x.2.1 ≤ 2147483647 → st.length < fuel →
   ∃ x' st', Q3 (fun (s : Qu × (List Qu)) => J0 s.1 s.2) fuel (mp x, rv st) = some (mp x', rv st') ∧ push nd st x = x' :: st' ∧ st'.length ≤ st.length := by
  intro st
  induction st with
  | nil =>
   intro x fuel hc hx hf
   obtain ⟨fuel, rfl⟩ : ∃ m, fuel = m + 1 := ⟨fuel - 1, by omega⟩
   exact ⟨x, [], by rw [YM (s' := (mp x, rv [])) (by simp [J0, rv])], rfl, Nat.le_refl _⟩
  | cons y st ih =>
   intro x fuel hc hx hf
   obtain ⟨fuel, rfl⟩ : ∃ m, fuel = m + 1 := ⟨fuel - 1, by omega⟩
   simp only [List.length_cons] at hf
   have hlen := Qdj _ _ hc
   simp only [List.length_cons] at hlen
   have hp := J2 x.2.1
   have hl1 : (rv (y :: st)).length = st.length + 1 := by rw [QbK]; rfl
   have e1 : w64 (((rv (y :: st)).length : Int) - 1) = (st.length : Int) := by rw [hl1, Ji (by omega) (by omega)]; omega
   have hg : JW (rv (y :: st)) (w64 (((rv (y :: st)).length : Int) - 1)) = some (mp y) := by
    rw [Jm e1 (by omega)]
    refine congrArg some ?_
    simp only [Qej]
    rw [List.getElem_append_right (by rw [QbK]; exact Nat.le_refl _)]
    simp [QbK]
   have hyx : y.1 + 2 ^ y.2.1 = x.1 := hc.1
   have hps := YP y.2.1
   have hpy := J2 y.2.1
   by_cases hm : y.2.1 = x.2.1 ∧ 2 ^ (y.2.1 + 1) ∣ y.1
   ·have hk : 2 ^ y.2.1 = 2 ^ x.2.1 := by rw [hm.1]
    have e2 : w64 ((2 : Int) * (mp y).2.1) = ((2 ^ (y.2.1 + 1) : Nat) : Int) := by
     show w64 (2 * p2 y.2.1) = _
     unfold p2; rw [Ji (by omega) (by omega)]; omega
    have hn : J0 (mp x) (rv (y :: st)) = some (.next (mp (y.1, y.2.1 + 1, nd y.2.2 x.2.2), rv st)) := by
     unfold J0
     rw [QI (by rw [decide_eq_true_eq, hl1]; omega), Qc hg, e2]
     rw [QU (by simp only [Bool.not_eq_true', decide_eq_false_iff_not, Decidable.not_not]; exact QbO.2 hm.1), QI (by omega), Option.bind_some,
      QU (by simp only [Bool.not_eq_true', decide_eq_false_iff_not, Decidable.not_not]; exact (Bc y.1 _).2 hm.2), Qc (Qhc _ _), Option.bind_some, e1, QI ⟨by omega, by rw [hl1]; omega⟩]
     refine congrArg some (congrArg LR.next (Prod.ext ?_ ?_))
     ·rfl
     ·show List.take (st.length : Int).toNat (rv (y :: st)) = rv st
      rw [Qej, Int.toNat_natCast, List.take_left' (by rw [QbK])]
    have hpu : push nd (y :: st) x = push nd st (y.1, y.2.1 + 1, nd y.2.2 x.2.2) := by
     conv => lhs; unfold push
     rw [if_pos hm]
    obtain ⟨x', st', h1, h2, h3⟩ := ih (y.1, y.2.1 + 1, nd y.2.2 x.2.2) fuel hc.2.2 (by show y.1 + 2 ^ (y.2.1 + 1) ≤ _; omega) (by omega)
    exact ⟨x', st', by rw [Yx hn]; exact h1, by rw [hpu]; exact h2, by simp only [List.length_cons]; omega⟩
   ·have hn : J0 (mp x) (rv (y :: st)) = some (.brk (mp x, rv (y :: st))) := by
     unfold J0
     rw [QI (by rw [decide_eq_true_eq, hl1]; omega), Qc hg]
     have e2 : w64 ((2 : Int) * (mp y).2.1) = ((2 ^ (y.2.1 + 1) : Nat) : Int) := by
      show w64 (2 * p2 y.2.1) = _
      unfold p2; rw [Ji (by omega) (by omega)]; omega
     rw [e2]
     by_cases hk : y.2.1 = x.2.1
     ·rw [QU (by simp only [Bool.not_eq_true', decide_eq_false_iff_not, Decidable.not_not]; exact QbO.2 hk), QI (by omega), Option.bind_some, QI (by
       simp only [Bool.not_eq_true', decide_eq_false_iff_not]; exact fun h => hm ⟨hk, (Bc y.1 _).1 h⟩)]
     ·rw [QI (by simp only [Bool.not_eq_true', decide_eq_false_iff_not]; exact fun h => hk (QbO.1 h)), Option.bind_some, QI rfl]
    exact ⟨x, y :: st, by rw [YM hn], by conv => lhs; unfold push; rw [if_neg hm], Nat.le_refl _⟩
 have hlen := Qdj _ _ hc
 have hpx := J2 x.2.1
 obtain ⟨x', st', h1, h2, h3⟩ := key st x FU hc hx (J4 (by omega))
 rw [Qc h1, QI (VW (by simp [QbK]; omega)), h2, Qej]
theorem Qh7 (l : List Qu) (hl : l.length ≤ 4000000000) : Yd l = some (l.map (·.2.2)) := by
 unfold Yd
 have h1 := QhB (f := fun (s : Int × (List Qa)) => ZB l s.1 s.2) l (·.2.2) (by omega) (fun i hi acc ha => by
  simp only [ZB]
  rw [QI (by rw [decide_eq_true_eq]; omega), Qc (Jm rfl hi), QI (VW (by simp; omega)), Ji (n := (i : Int) + 1) (by omega) (by omega)]) (fun acc => by
  simp only [ZB]
  rw [QU (by rw [decide_eq_true_eq]; omega)])
 rw [Qc h1]
def hof (st : List (P Qa)) : List Qa := st.reverse.map (·.2.2)
theorem QhP (st : List (P Qa)) (h : st.length ≤ 4000000000) : Yd (rv st) = some (hof st) := by
 rw [Qh7 _ (by rw [QbK]; exact h)]
 simp [rv, hof, mp, Function.comp_def]
def Qaw {H : Type} : Nat → List H → List (P H)
 | _, [] => []
 | a, h :: l => (a, 0, h) :: Qaw (a + 1) l
theorem Qbn {H : Type} : ∀ (l : List H) (a : Nat), Fw a (Qaw a l) (a + l.length)
 | [], a => rfl
 | h :: l, a => ⟨rfl, by simp, by
   have := Qbn l (a + 1)
   show Fw (a + 2 ^ 0) (Qaw (a + 1) l) _
   rw [List.length_cons, show a + (l.length + 1) = a + 1 + l.length by omega]; exact this⟩
end Go.Sl.Pu
set_option maxRecDepth 20000
namespace Go.Sl.Fr
variable {H : Type}
theorem Qlk {V : Nat → Nat → H} {st : List (P H)} (h : Hs V st) : Hs V st.reverse := fun x hx => h x (List.mem_reverse.1 hx)
def K1 (n : H → H → H) (z : H) : List H → H
 | [] => z
 | [x] => x
 | x :: y :: l => n x (K1 n z (y :: l))
end Go.Sl.Fr
namespace Go.Sl.Pu
open Go.Sl Go.Sl.M Go.Sl.Fr
attribute [local irreducible] sha nd
def XJ (n : Nat) : Nat := 2 ^ Nat.log2 (n - 1)
theorem QaQ {n : Nat} (h : 2 ≤ n) : XJ n < n := by
 have := Nat.log2_self_le (n := n - 1) (by omega)
 unfold XJ; omega
theorem Qbh (n : Nat) : 0 < XJ n := J2 _
theorem Qg8 {n k : Nat} (h1 : 2 ^ k < n) (h2 : n ≤ 2 ^ (k + 1)) : XJ n = 2 ^ k := by
 unfold XJ
 have hp := J2 k
 have : Nat.log2 (n - 1) = k := (Nat.log2_eq_iff (by omega)).2 ⟨by omega, by omega⟩
 rw [this]
theorem Qbr {n : Nat} (h : 2 ≤ n) : ∃ k, XJ n = 2 ^ k ∧ 2 ^ k < n ∧ n ≤ 2 ^ (k + 1) := by
 refine ⟨Nat.log2 (n - 1), rfl, QaQ h, ?_⟩
 have := Nat.lt_log2_self (n := n - 1)
 omega
def mth (l : List Qa) : Qa :=
 if h : 2 ≤ l.length then nd (mth (l.take (XJ l.length))) (mth (l.drop (XJ l.length)))
 else match l with
  | [] => sha []
  | x :: _ => x
termination_by l.length
decreasing_by
 ·have := QaQ h; simp; omega
 ·have := Qbh l.length; simp; omega
theorem Qhx : mth [] = sha [] := by rw [mth]; simp
theorem Qhl (x : Qa) : mth [x] = x := by rw [mth]; simp
theorem Qcw {l : List Qa} {k : Nat} (h1 : 2 ^ k < l.length) (h2 : l.length ≤ 2 ^ (k + 1)) : mth l = nd (mth (l.take (2 ^ k))) (mth (l.drop (2 ^ k))) := by
 have hp := J2 k
 conv => lhs; rw [mth]
 rw [dif_pos (by omega), Qg8 h1 h2]
theorem Qf7 {f : Int → Option (LR Int Empty)} (n : Nat) (hn : n ≤ 4000000000) (h2 : 2 ≤ n) (hf : ∀ y1, f y1 = if (decide (y1 < (w64 ((n : Int) - y1)))) = true then some (.next (w64 ((2 : Int) * y1))) else some (.brk y1)) :
  Q3 f FU (1 : Int) = some ((XJ n : Nat) : Int) := by
 obtain ⟨k, hk, hlt, hle⟩ := Qbr h2
 have key : ∀ (d j : Nat), j + d = k → ∀ fuel, d < fuel → Q3 f fuel (p2 j) = some (p2 k) := by
  intro d
  induction d with
  | zero =>
   intro j hj fuel hfu
   obtain ⟨fuel, rfl⟩ : ∃ m, fuel = m + 1 := ⟨fuel - 1, by omega⟩
   have : j = k := by omega
   subst this
   have hps := YP j
   have hpj := J2 j
   apply YM
   rw [hf, QU]
   rw [decide_eq_true_eq]; unfold p2; rw [Ji (by omega) (by omega)]; omega
  | succ d ih =>
   intro j hj fuel hfu
   obtain ⟨fuel, rfl⟩ : ∃ m, fuel = m + 1 := ⟨fuel - 1, by omega⟩
   have hps := YP j
   have hpj := J2 j
   have hjk : 2 ^ (j + 1) ≤ 2 ^ k := Nat.pow_le_pow_right (by omega) (by omega)
   rw [Yx (s' := p2 (j + 1)) (by
    rw [hf, QI (by rw [decide_eq_true_eq]; unfold p2; rw [Ji (by omega) (by omega)]; omega)]
    refine congrArg some (congrArg LR.next ?_)
    unfold p2; rw [Ji (by omega) (by omega)]; omega)]
   exact ih (j + 1) (by omega) fuel (by omega)
 have hk64 : k < 2 ^ k := Nat.lt_pow_self (by omega)
 have := key k 0 (by omega) FU (J4 (by omega))
 rw [hk]; exact this
theorem Qh1 : ∀ (n : Nat) (l : List Qa), l.length < n → l.length ≤ 4000000000 → Xh n l = some (mth l) := by
 intro n
 induction n with
 | zero => intro l h; omega
 | succ n ih =>
  intro l h hl
  show Xn (Xh n) l = _
  unfold Xn
  match l, h, hl with
  | [], h, hl => rw [QI (by rfl), Qc (QaL [] (by simp)), Qhx]
  | [x], h, hl => rw [QU (by simp), QI (by rfl), Qc (Jm (i := (0 : Int)) (k := 0) rfl (by simp)), Qhl]; rfl
  | x :: y :: l, h, hl =>
   generalize hL : x :: y :: l = L at h hl
   have h2 : 2 ≤ L.length := by rw [← hL]; simp
   have h1 := Qf7 (f := fun (s : Int) => XX L s) L.length hl h2 (fun y1 => rfl)
   obtain ⟨k, hk, hlt, hle⟩ := Qbr h2
   have hp := J2 k
   rw [QU (by rw [decide_eq_true_eq]; omega), QU (by rw [decide_eq_true_eq]; omega), Qc h1, hk,
    Qc (Zt (lo := (0 : Int)) (a := 0) (b := 2 ^ k) rfl rfl (by omega) (by omega)), List.drop_zero, Qc (ih _ (by simp; omega) (by simp; omega)),
    Qc (Zt (a := 2 ^ k) (b := L.length) rfl rfl (by omega) (by omega)), List.take_length, Qc (ih _ (by simp; omega) (by simp; omega)),
    Qc (Qdx _ _), Qcw hlt hle]
theorem QaT (l : List Qa) (hl : l.length ≤ 4000000000) : Yz l = some (mth l) := Qh1 FU l (J4 (by omega)) hl
def vt (a : Nat) (l : List Qa) (p k : Nat) : Qa := mth ((l.drop (p - a)).take (2 ^ k))
theorem QkU {a : Nat} {l : List Qa} {p k : Nat} (h1 : a ≤ p) (h2 : p + 2 ^ (k + 1) ≤ a + l.length) : vt a l p (k + 1) = nd (vt a l p k) (vt a l (p + 2 ^ k) k) := by
 unfold vt
 have hps := YP k
 have hp := J2 k
 have hl : ((l.drop (p - a)).take (2 ^ (k + 1))).length = 2 ^ (k + 1) := by rw [List.length_take, List.length_drop]; omega
 rw [Qcw (k := k) (by rw [hl]; omega) (by rw [hl]; exact Nat.le_refl _), List.take_take, Nat.min_eq_left (by omega), List.drop_take, List.drop_drop, show 2 ^ (k + 1) - 2 ^ k = 2 ^ k by omega, show p - a + 2 ^ k = p + 2 ^ k - a by omega]
theorem QkT {a : Nat} {l : List Qa} {i : Nat} (hi : i < l.length) : vt a l (a + i) 0 = l[i] := by
 unfold vt
 rw [Nat.add_sub_cancel_left, List.drop_eq_getElem_cons hi]
 exact Qhl _
theorem QhK (a : Nat) (l : List Qa) : Hs (vt a l) (Qaw a l) := by
 have : ∀ (m : List Qa) (i : Nat), l.drop i = m → Hs (vt a l) (Qaw (a + i) m) := by
  intro m
  induction m with
  | nil => intro i h x hx; cases hx
  | cons y m ih =>
   intro i h x hx
   have hi : i < l.length := by
    apply Decidable.byContradiction
    intro hc
    rw [List.drop_eq_nil_of_le (by omega)] at h; cases h
   rw [List.drop_eq_getElem_cons hi] at h
   injection h with h1 h2
   rcases List.mem_cons.1 hx with rfl | hx
   ·rw [← h1]; exact (QkT hi).symm
   ·exact ih (i + 1) h2 x hx
 exact this l 0 rfl
def cst (a : Nat) (l : List Qa) : List (P Qa) := Kn nd [] (Qaw a l)
theorem QlE (a : Nat) (l : List Qa) : Ct a (cst a l) (a + l.length) := WN nd _ [] a _ rfl (Qbn l a)
theorem QlH (a : Nat) (l : List Qa) : Nf (cst a l) := QeK nd _ [] trivial
theorem Qlj (a : Nat) (l : List Qa) : Hs (vt a l) (cst a l) :=
 Qhh (nd := nd) (V := vt a l) (a := a) (E := a + l.length) (fun p k h1 h2 _ => QkU h1 h2) (Qaw a l) [] a _ rfl (Qbn l a) (Nat.le_refl _) (fun _ h => by cases h) (QhK a l)
def hsh (a : Nat) (l : List Qa) : List Qa := hof (cst a l)
theorem Qll (a : Nat) (l : List Qa) : Fw a (cst a l).reverse (a + l.length) ∧ NfF (cst a l).reverse ∧ Hs (vt a l) (cst a l).reverse := ⟨QjA _ _ _ (QlE a l), QgZ _ (QlH a l), Qlk (Qlj a l)⟩
theorem Qi4 (a : Nat) (l : List Qa) : (cst a l).reverse.map (fun x => x.2.1) = WY a (a + l.length) := (Qbk (by omega) (Uj _ _ _ (Qll a l).1 (Qll a l).2.1)).symm
theorem Qj5 (a : Nat) (l : List Qa) : lay a (WY a (a + l.length)) (hsh a l) = (cst a l).reverse := by
 rw [← Qi4]; exact QgF _ _ _ (Qll a l).1
noncomputable def X6 (r : Qr) : Bool := decide (0 ≤ r.1 ∧ r.1 ≤ r.2.1 ∧ r.2.1 ≤ 2147483647 ∧ (WY r.1.toNat r.2.1.toNat).length = r.2.2.length)
theorem Qaq {r : Qr} : X6 r = true ↔ ∃ a e : Nat, r.1 = (a : Int) ∧ r.2.1 = (e : Int) ∧ a ≤ e ∧ e ≤ 2147483647 ∧ (WY a e).length = r.2.2.length := by
 unfold X6
 rw [decide_eq_true_eq]
 constructor
 ·rintro ⟨h1, h2, h3, h4⟩
  exact ⟨r.1.toNat, r.2.1.toNat, by omega, by omega, by omega, by omega, h4⟩
 ·rintro ⟨a, e, h1, h2, h3, h4, h5⟩
  rw [h1, h2]
  exact ⟨by omega, by omega, by omega, by simpa using h5⟩
theorem QbJ (r : Qr) : Xd r = some (X6 r) := by
 unfold Xd
 rw [Qc (Qjs _ _)]
 by_cases h : 0 ≤ r.1 ∧ r.1 ≤ r.2.1 ∧ r.2.1 ≤ 2147483647
 ·have h1 := QbV r.1.toNat r.2.1.toNat (by omega) (by omega)
  rw [show ((r.1.toNat : Nat) : Int) = r.1 by omega, show ((r.2.1.toNat : Nat) : Int) = r.2.1 by omega] at h1
  rw [QI (decide_eq_true h), Qc h1, Option.bind_some]
  refine congrArg some ?_
  unfold X6
  rw [List.length_map]
  by_cases hs : (WY r.1.toNat r.2.1.toNat).length = r.2.2.length
  ·rw [decide_eq_true (by omega), decide_eq_true ⟨h.1, h.2.1, h.2.2, hs⟩]
  ·rw [decide_eq_false (by omega), decide_eq_false (fun hh => hs hh.2.2.2)]
 ·rw [decide_eq_false h, QU (by decide), Option.bind_some]
  unfold X6
  rw [decide_eq_false (fun hh => h ⟨hh.1, hh.2.1, hh.2.2.1⟩)]
def WP : Qa := Vector.replicate 32 (0#8)
noncomputable def K4 (r : Qr) : Qa × Int :=
 if X6 r = true ∧ r.1 = 0 then (if r.2.2 = [] then (sha [], 0) else (K1 nd WP r.2.2, 0)) else (WP, 1)
theorem B4 (z : Qa) : ∀ (l : List Qa) (x y : Qa), K1 nd z (l ++ [x, y]) = K1 nd z (l ++ [nd x y])
 | [], x, y => rfl
 | [w], x, y => rfl
 | w :: v :: l, x, y => by
  show nd w (K1 nd z (v :: l ++ [x, y])) = nd w (K1 nd z (v :: l ++ [nd x y]))
  rw [B4 z (v :: l) x y]
theorem Qhn (r : Qr) (hr : r.2.2.length ≤ 4000000000) : Kr r = some (K4 r) := by
 unfold Kr K4
 rw [Qc (QbJ r)]
 by_cases hf : X6 r = true
 ·rw [hf, QU (by decide), Option.bind_some]
  by_cases h0 : r.1 = 0
  ·rw [QU (by simp [h0]), if_pos (show true = true ∧ r.1 = 0 from ⟨rfl, h0⟩)]
   by_cases hn : r.2.2 = []
   ·rw [QI (by simp [hn]), Qc (QcS [] (by simp)), if_pos hn]
   ·have hlen : 0 < r.2.2.length := List.length_pos_iff.2 hn
    rw [QU (by rw [decide_eq_true_eq]; omega), if_neg hn]
    have key : ∀ (i fuel : Nat) (y : Qa), i ≤ r.2.2.length → i < fuel → Q3 (fun (s : Int × Qa) => Xv r s.1 s.2) fuel ((i : Int) - 1, y) = some (-1, K1 nd WP (r.2.2.take i ++ [y])) := by
     intro i
     induction i with
     | zero =>
      intro fuel y hi hfu
      obtain ⟨fuel, rfl⟩ : ∃ m, fuel = m + 1 := ⟨fuel - 1, by omega⟩
      exact YM (s' := ((-1 : Int), y)) (by simp [Xv])
     | succ i ih =>
      intro fuel y hi hfu
      obtain ⟨fuel, rfl⟩ : ∃ m, fuel = m + 1 := ⟨fuel - 1, by omega⟩
      rw [Yx (s' := ((i : Int) - 1, nd r.2.2[i] y)) (by
       simp only [Xv]
       rw [QI (by rw [decide_eq_true_eq]; omega), Qc (Jm (k := i) (by omega) (by omega)), Qc (Qhc _ _), Ji (by omega) (by omega)]
       refine congrArg some (congrArg LR.next (Prod.ext ?_ rfl))
       show ((i + 1 : Nat) : Int) - 1 - 1 = _
       omega), ih fuel _ (by omega) (by omega), List.take_succ_eq_append_getElem (by omega), List.append_assoc]
      exact congrArg some (congrArg (fun v => ((-1 : Int), v)) (B4 WP (r.2.2.take i) r.2.2[i] y).symm)
    have h1 := key (r.2.2.length - 1) FU (r.2.2[r.2.2.length - 1]) (by omega) (J4 (by omega))
    rw [Qc (Jm (k := r.2.2.length - 1) (by rw [Ji (by omega) (by omega)]; omega) (by omega)), Ji (n := (r.2.2.length : Int) - 2) (by omega) (by omega), show (r.2.2.length : Int) - 2 = ((r.2.2.length - 1 : Nat) : Int) - 1 by omega, Qc h1]
    refine congrArg some (congrArg (fun v => (v, (0 : Int))) ?_)
    show K1 nd WP (r.2.2.take (r.2.2.length - 1) ++ [r.2.2[r.2.2.length - 1]]) = _
    rw [← List.take_succ_eq_append_getElem (by omega), List.take_of_length_le (by omega)]
  ·rw [QI (by simp [h0]), if_neg (show ¬ (true = true ∧ r.1 = 0) from fun h => h0 h.2)]; rfl
 ·rw [Bool.not_eq_true] at hf
  rw [hf, QI (by rfl), Option.bind_some, QI rfl, if_neg (show ¬ (false = true ∧ r.1 = 0) from fun h => by cases h.1)]; rfl
theorem Qff {b : Nat} {l : List Qa} : ∀ (L : List (P Qa)) (a e : Nat), L ≠ [] → Fw a L e → NfF L → Hs (vt b l) L → b ≤ a → e ≤ b + l.length → (∀ i, 2 ^ i ≤ e - a → 2 ^ i ∣ a) →
  K1 nd WP (L.map (fun x => x.2.2)) = mth ((l.drop (a - b)).take (e - a))
 | [], a, e, hne, _, _, _, _, _, _ => absurd rfl hne
 | [x], a, e, _, hf, hn, hs, hb, he, hal => by
  have h1 := hs x (List.mem_cons_self ..)
  have h2 : x.1 = a := hf.1
  have h3 : x.1 + 2 ^ x.2.1 = e := hf.2.2
  have hpx := J2 x.2.1
  show x.2.2 = _
  rw [h1]; unfold vt
  rw [h2, show e - a = 2 ^ x.2.1 by omega]
 | x :: y :: L, a, e, _, hf, hn, hs, hb, he, hal => by
  have h1 := hs x (List.mem_cons_self ..)
  have h2 : x.1 = a := hf.1
  have hsz := (Uj _ _ _ hf hn).2.1
  have hsz' : qg a (e - a) x.2.1 := hsz
  have hlt : a + 2 ^ x.2.1 < e := by
   have h := (Uj _ _ _ hf hn).2.2
   have h' : Seg (a + 2 ^ x.2.1) e (y.2.1 :: L.map (fun x => x.2.1)) := h
   exact h'.1
  have hub : e - a < 2 ^ (x.2.1 + 1) := by
   apply Decidable.byContradiction
   intro hc
   exact hsz'.2.2 ⟨by omega, hal _ (by omega)⟩
  have hps := YP x.2.1
  have hf' : Fw (a + 2 ^ x.2.1) (y :: L) e := by have := hf.2.2; rw [h2] at this; exact this
  have ih := Qff (y :: L) (a + 2 ^ x.2.1) e (by simp) hf' hn.2 (fun z hz => hs z (List.mem_cons_of_mem _ hz)) (by omega) he (fun i hi => by
   have h1 : 2 ^ i < 2 ^ x.2.1 := by omega
   have h2 : i < x.2.1 := (Nat.pow_lt_pow_iff_right (a := 2) (by omega)).1 h1
   exact Nat.dvd_add (hal i (by omega)) (Uw (by omega)))
  have hl : ((l.drop (a - b)).take (e - a)).length = e - a := by rw [List.length_take, List.length_drop]; omega
  rw [Qcw (k := x.2.1) (by rw [hl]; omega) (by rw [hl]; omega)]
  show nd x.2.2 (K1 nd WP ((y :: L).map (fun x => x.2.2))) = _
  rw [ih, h1, List.take_take, Nat.min_eq_left (by omega), List.drop_take, List.drop_drop, show a - b + 2 ^ x.2.1 = a + 2 ^ x.2.1 - b by omega, show e - a - 2 ^ x.2.1 = e - (a + 2 ^ x.2.1) by omega]
  unfold vt; rw [h2]
end Go.Sl.Pu
set_option maxRecDepth 20000
namespace Go.Sl.Fr
variable {H : Type}
def fm : List (P H) → Option Nat
 | x :: y :: L => if x.2.1 = y.2.1 ∧ 2 ^ (x.2.1 + 1) ∣ x.1 then some 0 else (fm (y :: L)).map (· + 1)
 | _ => none
theorem Qhu : ∀ (L : List (P H)), fm L = none → NfF L
 | [], _ => trivial
 | [_], _ => trivial
 | x :: y :: L, h => by
  unfold fm at h
  split at h
  ·cases h
  ·rename_i hc
   exact ⟨hc, Qhu (y :: L) (by simpa using h)⟩
theorem Qg2 : ∀ (L : List (P H)) (i : Nat), fm L = some i → ∃ A y x B, L = A ++ y :: x :: B ∧ A.length = i ∧ y.2.1 = x.2.1 ∧ 2 ^ (y.2.1 + 1) ∣ y.1
 | [], i, h => by cases h
 | [_], i, h => by cases h
 | x :: y :: L, i, h => by
  unfold fm at h
  split at h
  ·rename_i hc
   cases h
   exact ⟨[], x, y, L, rfl, rfl, hc.1, hc.2⟩
  ·cases hf : fm (y :: L) with
   | none => rw [hf] at h; cases h
   | some j =>
    rw [hf] at h
    obtain ⟨A, z, w, B, h1, h2, h3⟩ := Qg2 (y :: L) j hf
    cases h
    exact ⟨x :: A, z, w, B, by rw [h1]; rfl, by simp [h2], h3⟩
theorem QiS {a e : Nat} {A B : List (P H)} {y x : P H} {h : H} (hf : Fw a (A ++ y :: x :: B) e) (hk : y.2.1 = x.2.1) (hd : 2 ^ (y.2.1 + 1) ∣ y.1) : Fw a (A ++ (y.1, y.2.1 + 1, h) :: B) e := by
 obtain ⟨c, h1, h2⟩ := QaG _ _ _ _ hf
 refine QbN _ _ _ _ _ h1 ⟨h2.1, hd, ?_⟩
 show Fw (y.1 + 2 ^ (y.2.1 + 1)) B e
 have h3 := h2.2.2.2.2
 have h4 := h2.2.2.1
 rw [h4, ← hk, Nat.add_assoc, ← YP] at h3
 exact h3
def Hp (Q : Nat → Nat → H → Prop) (L : List (P H)) : Prop := ∀ x ∈ L, Q x.1 x.2.1 x.2.2
end Go.Sl.Fr
set_option maxRecDepth 20000
namespace Go.Sl.Pu
open Go.Sl Go.Sl.M Go.Sl.Fr
attribute [local irreducible] sha nd w64 p2
def sz (L : List (P Qa)) : List Int := L.map fun x => p2 x.2.1
def hh (L : List (P Qa)) : List Qa := L.map fun x => x.2.2
theorem By (L : List (P Qa)) : (sz L).length = L.length := by simp [sz]
theorem Bk (L : List (P Qa)) : (hh L).length = L.length := by simp [hh]
theorem Qgk {k : Nat} (h : 2 ^ k ≤ 2147483647) : w64 ((2 : Int) * p2 k) = p2 (k + 1) := by
 unfold p2
 have := YP k
 have := J2 k
 rw [Ji (by omega) (by omega)]; omega
theorem Qg1 {H : Type} (x y : P H) (L : List (P H)) : fm (x :: y :: L) = if x.2.1 = y.2.1 ∧ 2 ^ (x.2.1 + 1) ∣ x.1 then some 0 else (fm (y :: L)).map (· + 1) := rfl
theorem Qex (n : Nat) (h : n ≤ 4000000000) : w64 ((n : Int) + 1) = ((n + 1 : Nat) : Int) := by rw [Ji (by omega) (by omega)]; rfl
theorem Qld (n : Nat) (h : n ≤ 4000000000) : w64 ((n : Int) + 2) = ((n + 2 : Nat) : Int) := by rw [Ji (by omega) (by omega)]; rfl
theorem Qmf {H : Type} {L : List (P H)} {a e i : Nat} {x : P H} (h : Fw a L e) (hx : L[i]? = some x) : x.1 + 2 ^ x.2.1 ≤ e := by
 have hm := List.mem_of_getElem? hx
 clear hx
 induction L generalizing a with
 | nil => cases hm
 | cons y L ih =>
  have hle := Wi _ _ _ h.2.2
  rcases List.mem_cons.1 hm with rfl | hm
  ·omega
  ·exact ih h.2.2 hm
theorem Qie (S : List Int) (hS : S.length ≤ 2147483647) {e : Nat} (he : e ≤ 2147483647) : ∀ (B : List (P Qa)) (A : List (P Qa)) (p i fuel : Nat), Fw p B e → S = sz (A ++ B) → A.length = i → B.length < fuel →
  ∃ o, ZO (fun (s : Int × Int) => JH S s.1 s.2) fuel ((p : Int), (i : Int)) = some o ∧ (match fm B with | some j => o = .inr ((i + j : Nat) : Int) | none => ∃ s, o = .inl s) := by
 intro B
 induction B with
 | nil =>
  intro A p i fuel hf hS2 hi hfu
  obtain ⟨fuel, rfl⟩ : ∃ m, fuel = m + 1 := ⟨fuel - 1, by omega⟩
  have hl : S.length = i := by rw [hS2, By]; simpa using hi
  exact ⟨_, KL (s' := ((p : Int), (i : Int))) (by
   simp only [JH]
   rw [Ji (by omega) (by omega), QU (by rw [decide_eq_true_eq]; omega)]), _, rfl⟩
 | cons x B ih =>
  intro A p i fuel hf hS2 hi hfu
  obtain ⟨fuel, rfl⟩ : ∃ m, fuel = m + 1 := ⟨fuel - 1, by omega⟩
  simp only [List.length_cons] at hfu
  have hl : S.length = i + 1 + B.length := by rw [hS2, By]; simp; omega
  cases B with
  | nil =>
   exact ⟨_, KL (s' := ((p : Int), (i : Int))) (by
    simp only [JH]
    simp only [List.length_nil] at hl
    rw [Ji (by omega) (by omega), QU (by rw [decide_eq_true_eq]; omega)]), _, rfl⟩
  | cons y B =>
   simp only [List.length_cons] at hl
   have hx : x.1 = p := hf.1
   have hle := Wi _ _ _ hf.2.2
   simp only [List.length_cons] at hle
   have e1 : S[i]'(by omega) = p2 x.2.1 := by
    have : S[i]? = some (p2 x.2.1) := by
     rw [hS2]; unfold sz
     rw [List.getElem?_map, List.getElem?_append_right (by omega), hi, Nat.sub_self]; rfl
    rw [List.getElem?_eq_getElem (by omega)] at this; exact Option.some.inj this
   have e2 : S[i + 1]'(by omega) = p2 y.2.1 := by
    have : S[i + 1]? = some (p2 y.2.1) := by
     rw [hS2]; unfold sz
     rw [List.getElem?_map, List.getElem?_append_right (by omega), hi, Nat.add_sub_cancel_left]; rfl
    rw [List.getElem?_eq_getElem (by omega)] at this; exact Option.some.inj this
   have g1 : JW S (i : Int) = some (p2 x.2.1) := by rw [Jm rfl (by omega), e1]
   have hw : w64 ((i : Int) + 1) = ((i + 1 : Nat) : Int) := by rw [Ji (by omega) (by omega)]; omega
   have g2 : JW S (w64 ((i : Int) + 1)) = some (p2 y.2.1) := by rw [hw, Jm rfl (by omega), e2]
   have hk2 : 2 ^ x.2.1 ≤ 2147483647 := by omega
   have hk0 := J2 x.2.1
   have h20 := QlC (x.2.1 + 1)
   by_cases hm : x.2.1 = y.2.1 ∧ 2 ^ (x.2.1 + 1) ∣ x.1
   ·refine ⟨_, Wd (r := (i : Int)) (by
     simp only [JH]
     rw [QI (by rw [hw, decide_eq_true_eq]; omega), Qc g1, Qc g2, QI (by rw [decide_eq_true_eq]; exact QbO.2 hm.1), Qc g1, Qgk hk2, QI (by omega), Option.bind_some, QI (by
      rw [decide_eq_true_eq]; unfold p2; rw [Bc, ← hx]; exact hm.2)]), ?_⟩
    rw [Qg1, if_pos hm]; simp
   ·have hn : JH S (p : Int) (i : Int) = some (.next (((p + 2 ^ x.2.1 : Nat) : Int), ((i + 1 : Nat) : Int))) := by
     simp only [JH]
     rw [QI (by rw [hw, decide_eq_true_eq]; omega), Qc g1, Qc g2]
     have h2 : w64 ((p : Int) + p2 x.2.1) = ((p + 2 ^ x.2.1 : Nat) : Int) := by unfold p2; rw [Ji (by omega) (by omega)]; omega
     by_cases hk : x.2.1 = y.2.1
     ·rw [QI (by rw [decide_eq_true_eq]; exact QbO.2 hk), Qc g1, Qgk hk2, QI (by omega), Option.bind_some, QU (by
       rw [decide_eq_true_eq]; unfold p2; rw [Bc, ← hx]; exact fun h => hm ⟨hk, h⟩), Qc g1, h2, hw]
     ·rw [QU (by rw [decide_eq_true_eq]; exact fun h => hk (QbO.1 h)), Option.bind_some, QU (by decide), Qc g1, h2, hw]
    obtain ⟨o, ho, hq⟩ := ih (A ++ [x]) (p + 2 ^ x.2.1) (i + 1) fuel (by rw [← hx]; exact hf.2.2) (by rw [hS2]; simp) (by simp [hi]) (by simpa using hfu)
    refine ⟨o, (Uo (f := fun (s : Int × Int) => JH S s.1 s.2) (s := ((p : Int), (i : Int))) hn).trans ho, ?_⟩
    have hfm : fm (x :: y :: B) = (fm (y :: B)).map (· + 1) := by rw [Qg1, if_neg hm]
    rw [hfm]
    cases hc : fm (y :: B) with
    | none => rw [hc] at hq; exact hq
    | some j =>
     rw [hc] at hq
     show o = .inr ((i + (j + 1) : Nat) : Int)
     rw [hq, show i + 1 + j = i + (j + 1) by omega]
def fmI {H : Type} (L : List (P H)) : Int := match fm L with | some j => (j : Int) | none => -1
theorem QfC (L : List (P Qa)) (a e : Nat) (h : Fw a L e) (he : e ≤ 2147483647) : ZR (a : Int) (sz L) = some (fmI L) := by
 have hl := Wi _ _ _ h
 obtain ⟨o, ho, hq⟩ := Qie (sz L) (by rw [By]; omega) he L [] a 0 FU h rfl rfl (J4 (by omega))
 have ho' : ZO (fun (s : Int × Int) => JH (sz L) s.1 s.2) FU ((a : Int), (0 : Int)) = some o := ho
 unfold ZR fmI
 rw [Qc ho']
 cases hc : fm L with
 | none =>
  rw [hc] at hq
  obtain ⟨s, hs⟩ := hq
  rw [hs]
 | some j =>
  rw [hc] at hq
  rw [hq]; simp
theorem Qi6 (SA SB : List Int) (HA HB : List Qa) (k1 k2 : Int) (h1 h2 : Qa) (n : Nat) (a1 : SA.length = n) (a2 : HA.length = n) (hb : n + SB.length ≤ 4000000000) (hb2 : n + HB.length ≤ 4000000000) :
  YE (SA ++ k1 :: k2 :: SB) (HA ++ h1 :: h2 :: HB) (n : Int) = some (SA ++ (w64 ((2 : Int) * k1)) :: SB, HA ++ nd h1 h2 :: HB) := by
 have w2 : w64 ((n : Int) + 2) = ((n + 2 : Nat) : Int) := Qld _ (by omega)
 have w1 : w64 ((n : Int) + 1) = ((n + 1 : Nat) : Int) := Qex _ (by omega)
 have s1 : Zk (SA ++ k1 :: k2 :: SB) 0 (n : Int) = some SA := by
  rw [Zt (lo := (0 : Int)) (a := 0) (b := n) rfl rfl (Nat.zero_le _) (by rw [List.length_append, a1]; exact Nat.le_add_right _ _), ← a1, List.take_left, List.drop_zero]
 have s2 : JW (SA ++ k1 :: k2 :: SB) (n : Int) = some k1 := by
  rw [Jm rfl (by rw [List.length_append, a1]; simp)]; simp [a1]
 have s3 : Zk (SA ++ k1 :: k2 :: SB) (w64 ((n : Int) + 2)) ((SA ++ k1 :: k2 :: SB).length : Int) = some SB := by
  rw [w2, Zt rfl rfl (by rw [List.length_append, a1]; simp) (Nat.le_refl _), List.take_length, ← List.drop_drop, ← a1, List.drop_left]; rfl
 have t1 : Zk (HA ++ h1 :: h2 :: HB) 0 (n : Int) = some HA := by
  rw [Zt (lo := (0 : Int)) (a := 0) (b := n) rfl rfl (Nat.zero_le _) (by rw [List.length_append, a2]; exact Nat.le_add_right _ _), ← a2, List.take_left, List.drop_zero]
 have t2 : JW (HA ++ h1 :: h2 :: HB) (n : Int) = some h1 := by
  rw [Jm rfl (by rw [List.length_append, a2]; simp)]; simp [a2]
 have t3 : JW (HA ++ h1 :: h2 :: HB) (w64 ((n : Int) + 1)) = some h2 := by
  rw [w1, Jm rfl (by rw [List.length_append, a2]; simp), List.getElem_append_right (by omega)]; simp [a2]
 have t4 : Zk (HA ++ h1 :: h2 :: HB) (w64 ((n : Int) + 2)) ((HA ++ h1 :: h2 :: HB).length : Int) = some HB := by
  rw [w2, Zt rfl rfl (by rw [List.length_append, a2]; simp) (Nat.le_refl _), List.take_length, ← List.drop_drop, ← a2, List.drop_left]; rfl
 clear w1 w2
 unfold YE
 rw [Qc s1, QI (VW (by simp; omega)), Qc s2, QI (VW (by simp; omega)), Qc s3, QI (VW (by simp; omega)), Qc t1, QI (VW (by simp; omega)), Qc t2, Qc t3, Qc (Qdx _ _), QI (VW (by simp; omega)), Qc t4, QI (VW (by simp; omega))]
 simp
theorem QjT {A B : List (P Qa)} {y x : P Qa} {a e : Nat} (hf : Fw a (A ++ y :: x :: B) e) (he : e ≤ 2147483647) :
  YE (sz (A ++ y :: x :: B)) (hh (A ++ y :: x :: B)) (A.length : Int) = some (sz (A ++ (y.1, y.2.1 + 1, nd y.2.2 x.2.2) :: B), hh (A ++ (y.1, y.2.1 + 1, nd y.2.2 x.2.2) :: B)) := by
 have hl := Wi _ _ _ hf
 simp only [List.length_append, List.length_cons] at hl
 have e1 : sz (A ++ y :: x :: B) = sz A ++ p2 y.2.1 :: p2 x.2.1 :: sz B := by simp [sz]
 have e2 : hh (A ++ y :: x :: B) = hh A ++ y.2.2 :: x.2.2 :: hh B := by simp [hh]
 have e3 : sz (A ++ (y.1, y.2.1 + 1, nd y.2.2 x.2.2) :: B) = sz A ++ p2 (y.2.1 + 1) :: sz B := by simp [sz]
 have e4 : hh (A ++ (y.1, y.2.1 + 1, nd y.2.2 x.2.2) :: B) = hh A ++ nd y.2.2 x.2.2 :: hh B := by simp [hh]
 have hk : w64 ((2 : Int) * p2 y.2.1) = p2 (y.2.1 + 1) := by
  have hy := Qmf (i := A.length) (x := y) hf (by rw [List.getElem?_append_right (Nat.le_refl _), Nat.sub_self]; rfl)
  exact Qgk (Nat.le_trans (Nat.le_add_left _ _) (Nat.le_trans hy he))
 rw [e1, e2, e3, e4, Qi6 _ _ _ _ _ _ _ _ A.length (By A) (Bk A) (by rw [By]; omega) (by rw [Bk]; omega), hk]
noncomputable def Yu (r : Qr) : List (P Qa) := lay r.1.toNat (WY r.1.toNat r.2.1.toNat) r.2.2
noncomputable def X9 (a b : Qr) : Qr × Int :=
 if X6 a = true ∧ X6 b = true ∧ a.2.1 = b.1 then ((a.1, b.2.1, hof (Kn nd [] (Yu a ++ Yu b))), 0) else ((0, 0, []), 1)
theorem Bi {r : Qr} (h : X6 r = true) : Fw r.1.toNat (Yu r) r.2.1.toNat ∧ NfF (Yu r) ∧ sz (Yu r) = (WY r.1.toNat r.2.1.toNat).map p2 ∧ hh (Yu r) = r.2.2 := by
 obtain ⟨a, e, h1, h2, h3, h4, h5⟩ := Qaq.1 h
 unfold Yu
 rw [h1, h2]
 simp only [Int.toNat_natCast]
 refine ⟨QjC _ _ _ _ (Wb h3) h5, Qjo _ _ _ _ (Wb h3) h5, ?_, Qk4 _ _ _ h5⟩
 have := congrArg (List.map p2) (Qla _ _ a h5)
 rw [List.map_map] at this
 exact this
theorem Kj {r : Qr} (h : X6 r = true) : 0 ≤ r.1 ∧ r.1 ≤ r.2.1 ∧ r.2.1 ≤ 2147483647 ∧ r.2.2.length ≤ 62 := by
 obtain ⟨a, e, h1, h2, h3, h4, h5⟩ := Qaq.1 h
 have := Ql3 (Wb h3) h4
 exact ⟨by omega, by omega, by omega, by omega⟩
theorem Qgg (r : Qr) (S : List Int) (hS : S.length = r.2.2.length) (hl : r.2.2.length ≤ 62) {a0 e : Nat} (he : e ≤ 2147483647) : ∀ (L : List (P Qa)) (p i fuel : Nat) (st : List (P Qa)), Fw p L e → S.drop i = sz L → r.2.2.drop i = hh L → i + L.length = S.length → Ct a0 st p → L.length < fuel →
  Q3 (fun (s : Int × Int × (List Qu)) => ZC S r s.1 s.2.1 s.2.2) fuel ((p : Int), (i : Int), rv st) = some ((e : Int), (S.length : Int), rv (Kn nd st L)) := by
 intro L
 induction L with
 | nil =>
  intro p i fuel st hf h1 h2 hi hc hfu
  obtain ⟨fuel, rfl⟩ : ∃ m, fuel = m + 1 := ⟨fuel - 1, by omega⟩
  have hp : p = e := hf
  simp only [List.length_nil, Nat.add_zero] at hi
  rw [YM (s' := ((p : Int), (i : Int), rv st)) (by
   simp only [ZC]
   rw [QU (by rw [decide_eq_true_eq]; omega)]), hp, hi]
  rfl
 | cons x L ih =>
  intro p i fuel st hf h1 h2 hi hc hfu
  obtain ⟨fuel, rfl⟩ : ∃ m, fuel = m + 1 := ⟨fuel - 1, by omega⟩
  simp only [List.length_cons] at hfu hi
  have hx : x.1 = p := hf.1
  have hle := Wi _ _ _ hf.2.2
  have hi1 : i < S.length := by omega
  rw [List.drop_eq_getElem_cons hi1] at h1
  rw [List.drop_eq_getElem_cons (by omega)] at h2
  injection h1 with h1 h1'
  injection h2 with h2 h2'
  have hpart : (((p : Int), p2 x.2.1, x.2.2) : Qu) = mp x := by unfold mp; rw [hx]
  have hk0 := J2 x.2.1
  have hput := Qls (a := a0) st x (by rw [hx]; exact hc) (by omega)
  have hpush := Qcm nd st x (by rw [hx]; exact hc) hf.2.1
  rw [Yx (s' := (((x.1 + 2 ^ x.2.1 : Nat) : Int), ((i + 1 : Nat) : Int), rv (push nd st x))) (by
   simp only [ZC]
   rw [QI (by rw [decide_eq_true_eq]; omega), Qc (Jm rfl hi1), Qc (Jm rfl (by omega)), Option.bind_some, h1, h2, hpart, Qc hput, Ji (n := (i : Int) + 1) (by omega) (by omega)]
   rw [show w64 ((p : Int) + p2 x.2.1) = ((x.1 + 2 ^ x.2.1 : Nat) : Int) by unfold p2; rw [Ji (by omega) (by omega)]; omega]; rfl), ih (x.1 + 2 ^ x.2.1) (i + 1) fuel (push nd st x) hf.2.2 h1' h2' (by omega) hpush (by omega)]
  rfl
theorem QfA {r : Qr} (h : X6 r = true) {a0 : Nat} (st : List (P Qa)) (hc : Ct a0 st r.1.toNat) : ∃ S, ZJ r.1 r.2.1 = some S ∧ Q3 (fun (s : Int × Int × (List Qu)) => ZC S r s.1 s.2.1 s.2.2) FU (r.1, (0 : Int), rv st) = some (r.2.1, (S.length : Int), rv (Kn nd st (Yu r))) := by
 obtain ⟨a1, a2, a3, a4⟩ := Bi h
 obtain ⟨la1, la2, la3, la4⟩ := Kj h
 have sa := QbV r.1.toNat r.2.1.toNat (by omega) (by omega)
 rw [show ((r.1.toNat : Nat) : Int) = r.1 by omega, show ((r.2.1.toNat : Nat) : Int) = r.2.1 by omega, ← a3] at sa
 refine ⟨_, sa, ?_⟩
 have hl : (Yu r).length = r.2.2.length := by rw [← a4, Bk]
 have := Qgg r (sz (Yu r)) (by rw [By, hl]) la4 (a0 := a0) (e := r.2.1.toNat) (by omega) (Yu r) r.1.toNat 0 FU st a1 rfl (by rw [List.drop_zero, a4]) (by rw [By]; omega) hc (J4 (by omega))
 rw [show ((r.1.toNat : Nat) : Int) = r.1 by omega, show ((r.2.1.toNat : Nat) : Int) = r.2.1 by omega] at this
 exact this
theorem Qhk (a b : Qr) : X8 a b = some (X9 a b) := by
 unfold X8 X9
 rw [Qc (QbJ a)]
 by_cases ha : X6 a = true
 ·rw [ha, QU (by decide), Qc (QbJ b)]
  by_cases hb : X6 b = true
  ·rw [hb, Option.bind_some, QU (by decide), Option.bind_some]
   by_cases hab : a.2.1 = b.1
   ·rw [QU (by simp [hab]), if_pos (show true = true ∧ true = true ∧ a.2.1 = b.1 from ⟨rfl, rfl, hab⟩)]
    obtain ⟨a1, a2, a3, a4⟩ := Bi ha
    obtain ⟨b1, b2, b3, b4⟩ := Bi hb
    obtain ⟨la1, la2, la3, la4⟩ := Kj ha
    obtain ⟨lb1, lb2, lb3, lb4⟩ := Kj hb
    obtain ⟨S, s1, s2⟩ := QfA ha (a0 := a.1.toNat) [] rfl
    have hc := WN nd (Yu a) [] a.1.toNat _ rfl a1
    obtain ⟨T, t1, t2⟩ := QfA hb (a0 := a.1.toNat) (Kn nd [] (Yu a)) (by rw [← hab]; exact hc)
    have hc2 := WN nd (Yu b) _ b.1.toNat _ (by rw [← hab]; exact hc) b1
    have hl := Qdj _ _ hc2
    have hs1 : Q3 (fun (s : Int × Int × (List Qu)) => ZC S a s.1 s.2.1 s.2.2) FU (a.1, (0 : Int), ([] : List Qu)) = _ := s2
    have hloop : Q3 (fun (s : Int × (List Qu)) => ZW a b s.1 s.2) FU ((0 : Int), ([] : List Qu)) = some ((2 : Int), rv (Kn nd (Kn nd [] (Yu a)) (Yu b))) := by
     obtain ⟨fuel, hfu⟩ : ∃ m, FU = m + 3 := ⟨FU - 3, by unfold FU; rfl⟩
     rw [show Q3 (fun (s : Int × (List Qu)) => ZW a b s.1 s.2) FU = Q3 (fun (s : Int × (List Qu)) => ZW a b s.1 s.2) (fuel + 3) by rw [hfu]]
     rw [Yx (s' := ((1 : Int), rv (Kn nd [] (Yu a)))) (by
      simp only [ZW]
      rw [QI (by simp), Qc (Jm (i := (0 : Int)) (k := 0) rfl (by simp))]
      show Option.bind (ZJ a.1 a.2.1) _ = _
      rw [Qc s1]
      show Option.bind (Q3 (fun (s : Int × Int × (List Qu)) => ZC S a s.1 s.2.1 s.2.2) FU (a.1, (0 : Int), ([] : List Qu))) _ = _
      rw [Qc hs1, Ji (by omega) (by omega)]; rfl), Yx (s' := ((2 : Int), rv (Kn nd (Kn nd [] (Yu a)) (Yu b)))) (by
      simp only [ZW]
      rw [QI (by simp), Qc (Jm (i := (1 : Int)) (k := 1) rfl (by simp))]
      show Option.bind (ZJ b.1 b.2.1) _ = _
      rw [Qc t1]
      show Option.bind (Q3 (fun (s : Int × Int × (List Qu)) => ZC T b s.1 s.2.1 s.2.2) FU (b.1, (0 : Int), rv (Kn nd [] (Yu a)))) _ = _
      rw [Qc t2, Ji (by omega) (by omega)]; rfl), YM (s' := ((2 : Int), rv (Kn nd (Kn nd [] (Yu a)) (Yu b)))) (by
      simp only [ZW]
      rw [QU (by simp)])]
    rw [Qc hloop, Qc (QhP _ (by omega)), Option.bind_some]
    simp [Kn, List.foldl_append]
   ·rw [QI (by simp [hab]), if_neg (show ¬ (true = true ∧ true = true ∧ a.2.1 = b.1) from fun h => hab h.2.2)]
  ·rw [Bool.not_eq_true] at hb
   rw [hb, Option.bind_some, QI (by rfl), Option.bind_some, QI rfl, if_neg (fun h => by cases h.2.1)]
 ·rw [Bool.not_eq_true] at ha
  rw [ha, QI (by rfl), Option.bind_some, QI rfl, Option.bind_some, QI rfl, if_neg (fun h => by cases h.1)]
end Go.Sl.Pu
set_option maxRecDepth 20000
namespace Go.Sl.Pu
open Go.Sl Go.Sl.M Go.Sl.Fr
attribute [local irreducible] sha nd w64 p2 hsh WY
theorem Qeg (a : Nat) (l : List Qa) : Yu ((a : Int), ((a + l.length : Nat) : Int), hsh a l) = (cst a l).reverse := by
 unfold Yu
 simp only [Int.toNat_natCast]
 exact Qj5 a l
end Go.Sl.Pu
set_option maxRecDepth 20000
namespace Go.Sl.Pu
open Go.Sl Go.Sl.M Go.Sl.Fr
attribute [local irreducible] sha nd w64 p2 hsh WY
end Go.Sl.Pu
set_option maxRecDepth 20000
namespace Go.Sl.Pu
open Go.Sl Go.Sl.M Go.Sl.Fr
attribute [local irreducible] sha nd
inductive Tr where
 | part (h : Qa)
 | node (l r : Tr)
def Tr.h : Tr → Qa
 | .part h => h
 | .node l r => nd l.h r.h
def Tr.ts : Tr → List (List (BitVec 8))
 | .part _ => []
 | .node l r => txt l.h r.h :: (l.ts ++ r.ts)
def Sub : List Qa → Tr → Prop
 | _, .part _ => True
 | l, .node a b => 2 ≤ l.length ∧ Sub (l.take (XJ l.length)) a ∧ Sub (l.drop (XJ l.length)) b
def JJ : List Qa → Tr → Prop
 | l, .part h => h = mth l
 | l, .node a b => JJ (l.take (XJ l.length)) a ∧ JJ (l.drop (XJ l.length)) b
def tts (l : List Qa) : List (List (BitVec 8)) :=
 if h : 2 ≤ l.length then tts (l.take (XJ l.length)) ++ tts (l.drop (XJ l.length)) ++ [txt (mth (l.take (XJ l.length))) (mth (l.drop (XJ l.length)))] else []
termination_by l.length
decreasing_by
 ·rw [List.length_take]; have := QaQ h; omega
 ·rw [List.length_drop]; have := Qbh l.length; omega
theorem Qjv {l : List Qa} (h : 2 ≤ l.length) : mth l = nd (mth (l.take (XJ l.length))) (mth (l.drop (XJ l.length))) := by
 obtain ⟨k, h1, h2, h3⟩ := Qbr h
 rw [h1]; exact Qcw h2 h3
theorem Qkc {a b c d : Qa} (h : txt a b = txt c d) : a = c ∧ b = d := by
 unfold txt at h
 injection h with _ h
 have := List.append_inj h (by simp)
 exact ⟨Vector.toList_inj.1 this.1, Vector.toList_inj.1 this.2⟩
def Cl (T U : List (List (BitVec 8))) : Prop := ∃ u ∈ T, ∃ v ∈ U, u ≠ v ∧ sha u = sha v
theorem QjL (a b : Qa) : nd a b = sha (txt a b) := by with_unfolding_all rfl
theorem Qc2 : ∀ (t : Tr) (l : List Qa), Sub l t → t.h = mth l → Cl t.ts (tts l) ∨ JJ l t
 | .part h, l, _, he => .inr he
 | .node a b, l, hs, he => by
  have hl := hs.1
  have e1 : nd a.h b.h = nd (mth (l.take (XJ l.length))) (mth (l.drop (XJ l.length))) := by rw [← Qjv hl]; exact he
  have et : tts l = tts (l.take (XJ l.length)) ++ tts (l.drop (XJ l.length)) ++ [txt (mth (l.take (XJ l.length))) (mth (l.drop (XJ l.length)))] := by
   conv => lhs; rw [tts]
   rw [dif_pos hl]
  by_cases ht : txt a.h b.h = txt (mth (l.take (XJ l.length))) (mth (l.drop (XJ l.length)))
  ·obtain ⟨ea, eb⟩ := Qkc ht
   rcases Qc2 a _ hs.2.1 ea with ⟨u, hu, v, hv, h⟩ | ga
   ·exact .inl ⟨u, by simp [Tr.ts, hu], v, by rw [et]; simp [hv], h⟩
   rcases Qc2 b _ hs.2.2 eb with ⟨u, hu, v, hv, h⟩ | gb
   ·exact .inl ⟨u, by simp [Tr.ts, hu], v, by rw [et]; simp [hv], h⟩
   exact .inr ⟨ga, gb⟩
  ·exact .inl ⟨_, by simp [Tr.ts], _, by rw [et]; simp, ht, by rw [← QjL, ← QjL]; exact e1⟩
def W8 {H K : Type} (f : H → K) (L : List (P H)) : List (P K) := L.map fun x => (x.1, x.2.1, f x.2.2)
theorem Qgp {H K : Type} (f : H → K) : ∀ (L : List (P H)), fm (W8 f L) = fm L
 | [] => rfl
 | [_] => rfl
 | x :: y :: L => by
  have ih := Qgp f (y :: L)
  show (if x.2.1 = y.2.1 ∧ 2 ^ (x.2.1 + 1) ∣ x.1 then some 0 else (fm (W8 f (y :: L))).map (· + 1)) = (if x.2.1 = y.2.1 ∧ 2 ^ (x.2.1 + 1) ∣ x.1 then some 0 else (fm (y :: L)).map (· + 1))
  rw [ih]
theorem QeX {H K : Type} (f : H → K) : ∀ (L : List (P H)) (a e : Nat), Fw a (W8 f L) e ↔ Fw a L e
 | [], a, e => Iff.rfl
 | x :: L, a, e => by
  show (x.1 = a ∧ 2 ^ x.2.1 ∣ x.1 ∧ Fw (x.1 + 2 ^ x.2.1) (W8 f L) e) ↔ (x.1 = a ∧ 2 ^ x.2.1 ∣ x.1 ∧ Fw (x.1 + 2 ^ x.2.1) L e)
  rw [QeX f L]
theorem Qi1 {H K : Type} (f : H → K) : ∀ (L : List (P H)), NfF (W8 f L) ↔ NfF L
 | [] => Iff.rfl
 | [_] => Iff.rfl
 | x :: y :: L => by
  have ih := Qi1 f (y :: L)
  show (¬ (x.2.1 = y.2.1 ∧ 2 ^ (x.2.1 + 1) ∣ x.1) ∧ NfF (W8 f (y :: L))) ↔ (¬ (x.2.1 = y.2.1 ∧ 2 ^ (x.2.1 + 1) ∣ x.1) ∧ NfF (y :: L))
  rw [ih]
def sl (l : List Qa) (p n : Nat) : List Qa := (l.drop p).take n
theorem QlJ {l : List Qa} {p n : Nat} (h : p + n ≤ l.length) : (sl l p n).length = n := by
 unfold sl; rw [List.length_take, List.length_drop]; omega
theorem Qg9 {l : List Qa} {p n m : Nat} (h : m ≤ n) : (sl l p n).take m = sl l p m := by
 unfold sl; rw [List.take_take, Nat.min_eq_left h]
theorem Qg3 {l : List Qa} {p n m : Nat} : (sl l p n).drop m = sl l (p + m) (n - m) := by
 unfold sl; rw [List.drop_take, List.drop_drop]
def Qc7 (z : Tr) : List Tr → Tr
 | [] => z
 | [x] => x
 | x :: y :: l => .node x (Qc7 z (y :: l))
theorem Qem (z : Tr) : ∀ (l : List Tr), (Qc7 z l).h = K1 nd z.h (l.map Tr.h)
 | [] => rfl
 | [x] => rfl
 | x :: y :: l => by
  show nd x.h (Qc7 z (y :: l)).h = nd x.h (K1 nd z.h ((y :: l).map Tr.h))
  rw [Qem z (y :: l)]
def Ok (l : List Qa) (R : List (P Qa)) (T : List (List (BitVec 8))) (p n : Nat) (t : Tr) : Prop :=
 Sub (sl l p n) t ∧ (∀ u ∈ t.ts, u ∈ T) ∧ (JJ (sl l p n) t → ∀ x ∈ R, p ≤ x.1 → x.1 < p + n → x.2.2 = mth (sl l x.1 (2 ^ x.2.1)))
theorem Qhv {l : List Qa} {R : List (P Qa)} {T : List (List (BitVec 8))} {p n k : Nat} {s t : Tr} (h1 : 2 ^ k < n) (h2 : n ≤ 2 ^ (k + 1)) (hl : p + n ≤ l.length) (hs : Ok l R T p (2 ^ k) s) (ht : Ok l R T (p + 2 ^ k) (n - 2 ^ k) t) (hT : txt s.h t.h ∈ T) : Ok l R T p n (.node s t) := by
 have hlen := QlJ (l := l) (p := p) (n := n) hl
 have hh : XJ (sl l p n).length = 2 ^ k := by rw [hlen]; exact Qg8 h1 h2
 have hp := J2 k
 refine ⟨⟨by rw [hlen]; omega, ?_, ?_⟩, ?_, ?_⟩
 ·rw [hh, Qg9 (by omega)]; exact hs.1
 ·rw [hh, Qg3]; exact ht.1
 ·intro u hu
  rcases List.mem_cons.1 hu with rfl | hu
  ·exact hT
  rcases List.mem_append.1 hu with hu | hu
  ·exact hs.2.1 u hu
  ·exact ht.2.1 u hu
 ·rintro ⟨ga, gb⟩ x hx h3 h4
  rw [hh, Qg9 (by omega)] at ga
  rw [hh, Qg3] at gb
  by_cases hc : x.1 < p + 2 ^ k
  ·exact hs.2.2 ga x hx h3 hc
  ·exact ht.2.2 gb x hx (by omega) (by omega)
theorem Qa8 {l : List Qa} {R : List (P Qa)} {T U : List (List (BitVec 8))} {p n : Nat} {t : Tr} (h : Ok l R T p n t) (hu : ∀ u ∈ T, u ∈ U) : Ok l R U p n t := ⟨h.1, fun u hm => hu u (h.2.1 u hm), h.2.2⟩
theorem QeF {H : Type} : ∀ (L : List (P H)) (a e : Nat) (x : P H), Fw a L e → x ∈ L → a ≤ x.1 ∧ x.1 + 2 ^ x.2.1 ≤ e
 | y :: L, a, e, x, h, hx => by
  have hle := Wi _ _ _ h.2.2
  have h1 := h.1
  rcases List.mem_cons.1 hx with rfl | hx
  ·omega
  ·have := QeF L _ _ x h.2.2 hx
   have := J2 y.2.1
   omega
theorem QiH {H : Type} : ∀ (L : List (P H)) (a e : Nat) (x y : P H), Fw a L e → x ∈ L → y ∈ L → y.1 ≤ x.1 → x.1 < y.1 + 2 ^ y.2.1 → x = y
 | z :: L, a, e, x, y, h, hx, hy, h1, h2 => by
  rcases List.mem_cons.1 hx with rfl | hx
  ·rcases List.mem_cons.1 hy with rfl | hy
   ·rfl
   ·have := QeF L _ _ y h.2.2 hy
    have := J2 x.2.1
    omega
  ·have h3 := QeF L _ _ x h.2.2 hx
   rcases List.mem_cons.1 hy with rfl | hy
   ·omega
   ·exact QiH L _ _ x y h.2.2 hx hy h1 h2
theorem Qkk {l : List Qa} {R : List (P Qa)} {T : List (List (BitVec 8))} {a e : Nat} (hf : Fw a R e) {x : P Qa} (hx : x ∈ R) : Ok l R T x.1 (2 ^ x.2.1) (.part x.2.2) :=
 ⟨trivial, (fun u hu => by cases hu), (fun g y hy h1 h2 => by
  have := QiH R a e y x hf hy hx h1 h2
  rw [this]; exact g)⟩
theorem Qhb {l : List Qa} {R : List (P Qa)} {T : List (List (BitVec 8))} {z : Tr} : ∀ (L : List (P Tr)) (a e : Nat), L ≠ [] → Fw a L e → NfF L → (∀ x ∈ L, Ok l R T x.1 (2 ^ x.2.1) x.2.2) → e ≤ l.length → (∀ i, 2 ^ i ≤ e - a → 2 ^ i ∣ a) → (∀ A x y B, L.map (·.2.2) = A ++ x :: y :: B → txt x.h (Qc7 z (y :: B)).h ∈ T) →
  Ok l R T a (e - a) (Qc7 z (L.map (·.2.2)))
 | [], a, e, hne, _, _, _, _, _, _ => absurd rfl hne
 | [x], a, e, _, hf, hn, hs, he, hal, hT => by
  have h1 := hs x (List.mem_cons_self ..)
  have h2 : x.1 = a := hf.1
  have h3 : x.1 + 2 ^ x.2.1 = e := hf.2.2
  have hpx := J2 x.2.1
  rw [h2] at h1
  rw [show e - a = 2 ^ x.2.1 by omega]
  exact h1
 | x :: y :: L, a, e, _, hf, hn, hs, he, hal, hT => by
  have h1 := hs x (List.mem_cons_self ..)
  have h2 : x.1 = a := hf.1
  have hsz := (Uj _ _ _ hf hn).2.1
  have hsz' : qg a (e - a) x.2.1 := hsz
  have hlt : a + 2 ^ x.2.1 < e := by
   have h := (Uj _ _ _ hf hn).2.2
   have h' : Seg (a + 2 ^ x.2.1) e (y.2.1 :: L.map (fun x => x.2.1)) := h
   exact h'.1
  have hub : e - a < 2 ^ (x.2.1 + 1) := by
   apply Decidable.byContradiction
   intro hc
   exact hsz'.2.2 ⟨by omega, hal _ (by omega)⟩
  have hps := YP x.2.1
  have hf' : Fw (a + 2 ^ x.2.1) (y :: L) e := by have := hf.2.2; rw [h2] at this; exact this
  have ih := Qhb (l := l) (R := R) (T := T) (z := z) (y :: L) (a + 2 ^ x.2.1) e (by simp) hf' hn.2 (fun w hw => hs w (List.mem_cons_of_mem _ hw)) he (fun i hi => by
   have h1 : 2 ^ i < 2 ^ x.2.1 := by omega
   have h2 : i < x.2.1 := (Nat.pow_lt_pow_iff_right (a := 2) (by omega)).1 h1
   exact Nat.dvd_add (hal i (by omega)) (Uw (by omega))) (fun A u v B hA => hT (x.2.2 :: A) u v B (by rw [List.map_cons, hA]; rfl))
  rw [h2] at h1
  refine Qhv (k := x.2.1) (by omega) (by omega) (by omega) h1 ?_ (hT [] x.2.2 y.2.2 (L.map (·.2.2)) rfl)
  rw [show e - a - 2 ^ x.2.1 = e - (a + 2 ^ x.2.1) by omega]
  exact ih
end Go.Sl.Pu
set_option maxRecDepth 20000
namespace Go.Sl.Pu
open Go.Sl Go.Sl.M Go.Sl.Fr
attribute [local irreducible] sha nd w64 p2 hsh WY
theorem Qig (a b : Qr) : (X9 a b).1.2.2.length ≤ 2147483647 := by
 unfold X9
 split
 ·rename_i h
  obtain ⟨a1, a2, a3, a4⟩ := Bi h.1
  obtain ⟨b1, b2, b3, b4⟩ := Bi h.2.1
  obtain ⟨la1, la2, la3, la4⟩ := Kj h.1
  obtain ⟨lb1, lb2, lb3, lb4⟩ := Kj h.2.1
  have hf : Fw a.1.toNat (Yu a ++ Yu b) b.2.1.toNat := QbN _ _ _ _ _ a1 (by rw [h.2.2]; exact b1)
  have := Qdj _ _ (WN nd _ [] a.1.toNat _ rfl hf)
  show (hof _).length ≤ _
  unfold hof
  rw [List.length_map, List.length_reverse]
  omega
 ·simp
theorem QiJ {a b : Qr} (h : (X9 a b).2 = 0) : X6 a = true ∧ X6 b = true ∧ a.2.1 = b.1 := by
 unfold X9 at h
 split at h
 ·assumption
 ·cases h
theorem Qiv {a b : Qr} (h : X6 a = true ∧ X6 b = true ∧ a.2.1 = b.1) : X9 a b = ((a.1, b.2.1, hof (Kn nd [] (Yu a ++ Yu b))), 0) ∧ X6 (X9 a b).1 = true ∧ Yu (X9 a b).1 = (Kn nd [] (Yu a ++ Yu b)).reverse := by
 have hj : X9 a b = ((a.1, b.2.1, hof (Kn nd [] (Yu a ++ Yu b))), 0) := by unfold X9; rw [if_pos h]
 obtain ⟨a1, a2, a3, a4⟩ := Bi h.1
 obtain ⟨b1, b2, b3, b4⟩ := Bi h.2.1
 obtain ⟨la1, la2, la3, la4⟩ := Kj h.1
 obtain ⟨lb1, lb2, lb3, lb4⟩ := Kj h.2.1
 have hf : Fw a.1.toNat (Yu a ++ Yu b) b.2.1.toNat := QbN _ _ _ _ _ a1 (by rw [h.2.2]; exact b1)
 have hc := WN nd _ [] a.1.toNat _ rfl hf
 have hn : Nf (Kn nd [] (Yu a ++ Yu b)) := QeK nd _ [] trivial
 have hw := QjA _ _ _ hc
 have hs := Uj _ _ _ hw (QgZ _ hn)
 have hab := h.2.2
 have hu := Qbk (show a.1.toNat ≤ b.2.1.toNat by omega) hs
 have hl := Wi _ _ _ hw
 refine ⟨hj, ?_, ?_⟩
 ·rw [hj]
  exact Qaq.2 ⟨a.1.toNat, b.2.1.toNat, by simp only []; omega, by simp only []; omega, by omega, by omega, by rw [hu]; simp [hof]⟩
 ·rw [hj]
  unfold Yu
  simp only []
  rw [hu]
  exact QgF _ _ _ hw
noncomputable def Qmg (a b c : Qr) : Bool := decide ((X9 a b).2 = 0 ∧ (X9 (X9 a b).1 c).2 = 0 ∧ (K4 (X9 (X9 a b).1 c).1).2 = 0)
theorem QkA (root : Qa) (a : Qr) (ha : a.2.2.length ≤ 4000000000) : XV root [a] = some (decide ((K4 a).2 = 0 ∧ (K4 a).1 = root)) := by
 unfold XV
 rw [Qc (Jm (i := (0 : Int)) (k := 0) rfl (by simp)), Qc (Zt (lo := (1 : Int)) (hi := (([a] : List Qr).length : Int)) (a := 1) (b := 1) rfl rfl (by omega) (by simp))]
 obtain ⟨fuel, hfu⟩ : ∃ m, FU = m + 1 := ⟨FU - 1, by unfold FU; rfl⟩
 have hl : ZO (fun (s : Int × Qr) => JM [] s.1 s.2) FU ((0 : Int), a) = some (.inl ((0 : Int), a)) := by
  rw [hfu, KL (s' := ((0 : Int), a)) (by
   simp only [JM]
   rw [QU (by simp)])]
 show Option.bind (ZO (fun (s : Int × Qr) => JM [] s.1 s.2) FU ((0 : Int), a)) _ = _
 rw [Qc hl]
 simp only []
 rw [Qc (Qhn _ ha)]
 by_cases h3 : (K4 a).2 = 0 <;> simp [h3]
theorem QkF (root : Qa) (a b : Qr) : XV root [a, b] = some (decide ((X9 a b).2 = 0 ∧ (K4 (X9 a b).1).2 = 0 ∧ (K4 (X9 a b).1).1 = root)) := by
 unfold XV
 rw [Qc (Jm (i := (0 : Int)) (k := 0) rfl (by simp)), Qc (Zt (lo := (1 : Int)) (hi := (([a, b] : List Qr).length : Int)) (a := 1) (b := 2) rfl rfl (by omega) (by simp))]
 have w1 : w64 ((0 : Int) + 1) = 1 := by rw [Ji (by omega) (by omega)]; rfl
 obtain ⟨fuel, hfu⟩ : ∃ m, FU = m + 2 := ⟨FU - 2, by unfold FU; rfl⟩
 show Option.bind (ZO (fun (s : Int × Qr) => JM [b] s.1 s.2) FU ((0 : Int), a)) _ = _
 by_cases h1 : (X9 a b).2 = 0
 ·have s1 : JM [b] (0 : Int) a = some (.next ((1 : Int), (X9 a b).1)) := by
   simp only [JM]
   rw [QI (by simp), Qc (Jm (i := (0 : Int)) (k := 0) rfl (by simp))]
   show Option.bind (X8 a b) _ = _
   rw [Qc (Qhk a b), QU (by simp [h1]), w1]
  have hl : ZO (fun (s : Int × Qr) => JM [b] s.1 s.2) FU ((0 : Int), a) = some (.inl ((1 : Int), (X9 a b).1)) := by
   rw [hfu, Uo (f := fun (s : Int × Qr) => JM [b] s.1 s.2) (s := ((0 : Int), a)) s1, KL (s' := ((1 : Int), (X9 a b).1)) (by
    simp only [JM]
    rw [QU (by simp)])]
  rw [Qc hl]
  simp only []
  rw [Qc (Qhn _ (Nat.le_trans (Qig _ _) (by omega)))]
  by_cases h3 : (K4 (X9 a b).1).2 = 0 <;> simp [h1, h3]
 ·have s1 : JM [b] (0 : Int) a = some (.ret false) := by
   simp only [JM]
   rw [QI (by simp), Qc (Jm (i := (0 : Int)) (k := 0) rfl (by simp))]
   show Option.bind (X8 a b) _ = _
   rw [Qc (Qhk a b), QI (by simp [h1])]
  have hl : ZO (fun (s : Int × Qr) => JM [b] s.1 s.2) FU ((0 : Int), a) = some (.inr false) := by
   rw [hfu, Wd (f := fun (s : Int × Qr) => JM [b] s.1 s.2) (s := ((0 : Int), a)) s1]
  rw [Qc hl]
  simp [h1]
noncomputable def isG (t : Xs) (m n : Int) (old root : Qa) : Bool :=
 decide (0 ≤ m ∧ m ≤ n ∧ n ≤ 2147483647 ∧ (K4 (0, m, t.1)).2 = 0 ∧ (K4 (0, m, t.1)).1 = old ∧ (X9 (0, m, t.1) (m, n, t.2)).2 = 0 ∧ (K4 (X9 (0, m, t.1) (m, n, t.2)).1).2 = 0 ∧ (K4 (X9 (0, m, t.1) (m, n, t.2)).1).1 = root)
theorem Qlc (t : Xs) (m n : Int) (old root : Qa) (ht : t.1.length ≤ 4000000000) : V6 t m n old root = some (isG t m n old root) := by
 unfold V6 isG
 by_cases h1 : m < 0
 ·rw [QI (decide_eq_true h1), Option.bind_some, QI rfl, Option.bind_some, QI rfl, decide_eq_false (fun hh => by omega)]
 ·rw [QU (by rw [decide_eq_true_eq]; exact h1), Option.bind_some]
  by_cases h2 : n < m
  ·rw [QI (decide_eq_true h2), Option.bind_some, QI rfl, decide_eq_false (fun hh => by omega)]
  ·rw [QU (by rw [decide_eq_true_eq]; exact h2), Option.bind_some]
   by_cases h3 : 2147483647 < n
   ·rw [QI (decide_eq_true h3), decide_eq_false (fun hh => by omega)]
   ·rw [QU (by rw [decide_eq_true_eq]; exact h3), Option.bind_some, Option.bind_some, Qc (QkA _ _ ht), Qc (QkF _ _ _)]
    have g : 0 ≤ m ∧ m ≤ n ∧ n ≤ 2147483647 := ⟨by omega, by omega, by omega⟩
    by_cases h4 : (K4 (0, m, t.1)).2 = 0 ∧ (K4 (0, m, t.1)).1 = old
    ·simp [h4, g]
    ·rw [decide_eq_false h4, QU (by decide), Option.bind_some, decide_eq_false (fun hh => h4 ⟨hh.2.2.2.1, hh.2.2.2.2.1⟩)]
end Go.Sl.Pu
set_option maxRecDepth 20000
namespace Go.Sl.Pu
open Go.Sl Go.Sl.M Go.Sl.Fr
attribute [local irreducible] sha nd w64 p2 hsh WY
def Qlu {τ ρ : Type} (o : Option ρ) (t : τ) : τ ⊕ ρ := match o with | some x => .inr x | none => .inl t
theorem Qb3 {τ ρ : Type} {f : τ → Option (LR τ ρ)} (en : Nat → τ) (n : Nat) (r : Nat → Option ρ) (h : ∀ i, i < n → f (en i) = some (match r i with | some x => .ret x | none => .next (en (i + 1)))) (he : f (en n) = some (.brk (en n))) (hn : n ≤ 9000000000) :
  ZO f FU (en 0) = some (Qlu ((List.range n).findSome? r) (en n)) := by
 rw [Qc3 en n r h he hn]
 unfold Qlu
 cases (List.range n).findSome? r <;> rfl
def clB (u v : List (BitVec 8)) : Bool := decide (u ≠ v ∧ sha u = sha v)
theorem Qjg (a b : List (List (BitVec 8))) (ha : a.length ≤ 4000000000) (hb : b.length ≤ 4000000000) (h1 : ∀ u ∈ a, u.length ≤ 4000000000) (h2 : ∀ u ∈ b, u.length ≤ 4000000000) (h : Cl a b) : Ym a b = some true := by
 unfold Ym
 have inner : ∀ i (hi : i < a.length), ZO (fun (s : Int) => ZH b a (i : Int) s) FU (0 : Int) = some (Qlu ((List.range b.length).findSome? (fun k => if clB (a[i]?.getD []) (b[k]?.getD []) = true then some true else none)) (b.length : Int)) := by
  intro i hi
  have hh := Qb3 (f := fun (s : Int) => ZH b a (i : Int) s) (fun k => (k : Int)) b.length (fun k => if clB (a[i]?.getD []) (b[k]?.getD []) = true then some true else none) (fun k hk => ?_) ?_ (by omega)
  ·exact hh
  ·simp only [ZH]
   have u1 := h1 _ (List.getElem_mem hi)
   have u2 := h2 _ (List.getElem_mem hk)
   have g1 : JW a (i : Int) = some a[i] := Jm rfl hi
   have g2 : JW b (k : Int) = some b[k] := Jm rfl hk
   rw [QI (by rw [decide_eq_true_eq]; omega), Qc g1, Qc g2, Qc (Qkb _ _ (by omega)), List.getElem?_eq_getElem hi, List.getElem?_eq_getElem hk, Option.getD_some, Option.getD_some]
   have w1 : w64 ((k : Int) + 1) = ((k + 1 : Nat) : Int) := Qex _ (by omega)
   by_cases e : a[i] = b[k]
   ·rw [QU (by simp [e]), Option.bind_some, QU (by decide), w1]
    unfold clB
    rw [decide_eq_false (fun hh => hh.1 e)]
    rfl
   ·rw [QI (by simp [e]), Qc g1, Qc (QaL _ u1), Qc g2, Qc (QaL _ u2), Option.bind_some]
    by_cases e2 : sha a[i] = sha b[k]
    ·rw [decide_eq_true e2, QI rfl]
     unfold clB
     rw [decide_eq_true ⟨e, e2⟩]
     rfl
    ·rw [decide_eq_false e2, QU (by decide), w1]
     unfold clB
     rw [decide_eq_false (fun hh => e2 hh.2)]
     rfl
  ·simp only [ZH]
   rw [QU (by rw [decide_eq_true_eq]; omega)]
 have outer := Qb3 (f := fun (s : Int) => ZF a b s) (fun i => (i : Int)) a.length (fun i => (List.range b.length).findSome? (fun k => if clB (a[i]?.getD []) (b[k]?.getD []) = true then some true else none)) (fun i hi => by
  simp only [ZF]
  rw [QI (by rw [decide_eq_true_eq]; omega), Qc (inner i hi), Qex i (by omega)]
  cases hc : (List.range b.length).findSome? (fun k => if clB (a[i]?.getD []) (b[k]?.getD []) = true then some true else none) with
  | none => rfl
  | some x => rfl) (by
  simp only [ZF]
  rw [QU (by rw [decide_eq_true_eq]; omega)]) (by omega)
 have outer' : ZO (fun (s : Int) => ZF a b s) FU (0 : Int) = _ := outer
 rw [Qc outer']
 have hone : ∀ i : Nat, (List.range b.length).findSome? (fun k => if clB (a[i]?.getD []) (b[k]?.getD []) = true then some true else none) = none ∨ (List.range b.length).findSome? (fun k => if clB (a[i]?.getD []) (b[k]?.getD []) = true then some true else none) = some true := by
  intro i
  cases hc : (List.range b.length).findSome? (fun k => if clB (a[i]?.getD []) (b[k]?.getD []) = true then some true else none) with
  | none => exact .inl rfl
  | some x =>
   obtain ⟨k, _, hk⟩ := List.exists_of_findSome?_eq_some hc
   split at hk
   ·cases hk; exact .inr rfl
   ·cases hk
 obtain ⟨u, hu, v, hv, h3, h4⟩ := h
 obtain ⟨i, hi, hiu⟩ := List.getElem_of_mem hu
 obtain ⟨k, hk, hkv⟩ := List.getElem_of_mem hv
 have hfs := Qd9 (x := true) (n := a.length) (r := fun i => (List.range b.length).findSome? (fun k => if clB (a[i]?.getD []) (b[k]?.getD []) = true then some true else none)) (fun i _ => hone i) ⟨i, hi, by
  intro hc
  rw [List.findSome?_eq_none_iff] at hc
  have : (if clB (a[i]?.getD []) (b[k]?.getD []) = true then some true else none) = none := hc k (List.mem_range.2 hk)
  rw [List.getElem?_eq_getElem hi, List.getElem?_eq_getElem hk, Option.getD_some, Option.getD_some, hiu, hkv] at this
  unfold clB at this
  rw [decide_eq_true ⟨h3, h4⟩] at this
  cases this⟩
 rw [hfs]
 rfl
theorem QcG : ∀ (n : Nat) (l : List Qa), l.length ≤ n → (tts l).length ≤ l.length - 1 ∧ ∀ u ∈ tts l, u.length = 65 := by
 intro n
 induction n with
 | zero =>
  intro l hl
  rw [tts, dif_neg (by omega)]
  exact ⟨by simp, fun u hu => by cases hu⟩
 | succ n ih =>
  intro l hl
  rw [tts]
  by_cases h : 2 ≤ l.length
  ·rw [dif_pos h]
   have h1 := QaQ h
   have h2 := Qbh l.length
   have e1 : (l.take (XJ l.length)).length = XJ l.length := by rw [List.length_take]; omega
   have e2 : (l.drop (XJ l.length)).length = l.length - XJ l.length := List.length_drop ..
   obtain ⟨a1, a2⟩ := ih (l.take (XJ l.length)) (by omega)
   obtain ⟨b1, b2⟩ := ih (l.drop (XJ l.length)) (by omega)
   refine ⟨by rw [List.length_append, List.length_append, List.length_singleton]; omega, fun u hu => ?_⟩
   rcases List.mem_append.1 hu with hu | hu
   ·rcases List.mem_append.1 hu with hu | hu
    ·exact a2 u hu
    ·exact b2 u hu
   ·rw [List.mem_singleton.1 hu]; exact Qa3 _ _
  ·rw [dif_neg h]
   exact ⟨by simp, fun u hu => by cases hu⟩
theorem QkX : ∀ (n : Nat) (l : List Qa), l.length < n → l.length ≤ 1000000 → Xj n l = some (tts l) := by
 intro n
 induction n with
 | zero => intro l h; omega
 | succ n ih =>
  intro l h hl
  show Xg (Xj n) l = _
  unfold Xg
  rw [tts]
  by_cases h2 : 2 ≤ l.length
  ·have h1 := Qf7 (f := fun (s : Int) => XR l s) l.length (by omega) h2 (fun y1 => rfl)
   have hlt := QaQ h2
   have hpos := Qbh l.length
   have e1 : (l.take (XJ l.length)).length = XJ l.length := by rw [List.length_take]; omega
   have e2 : (l.drop (XJ l.length)).length = l.length - XJ l.length := List.length_drop ..
   have ta := QcG _ (l.take (XJ l.length)) (Nat.le_refl _)
   have tb := QcG _ (l.drop (XJ l.length)) (Nat.le_refl _)
   have s1 : Zk l 0 ((XJ l.length : Nat) : Int) = some (l.take (XJ l.length)) := by
    rw [Zt (lo := (0 : Int)) (a := 0) (b := XJ l.length) rfl rfl (by omega) (by omega), List.drop_zero]
   have s2 : Zk l ((XJ l.length : Nat) : Int) (l.length : Int) = some (l.drop (XJ l.length)) := by
    rw [Zt (a := XJ l.length) (b := l.length) rfl rfl (by omega) (Nat.le_refl _), List.take_length]
   rw [dif_pos h2, QU (by rw [decide_eq_true_eq]; omega), Qc h1, Qc s1, Qc (ih _ (by omega) (by omega)), Qc s2, Qc (ih _ (by omega) (by omega)), QI (VW (by omega)), Qc s1, Qc (QaT _ (by omega)), Qc s2, Qc (QaT _ (by omega)), Qc (QeM _ _), QI (VW (by rw [List.length_append]; simp only [List.length_singleton]; omega))]
  ·rw [dif_neg h2, QI (by rw [decide_eq_true_eq]; omega)]
abbrev hR (L : List (P Tr)) : List (P Qa) := W8 Tr.h L
theorem QdC (L : List (P Tr)) : (hR L).length = L.length := by simp [W8]
theorem QkM (l : List Qa) (R : List (P Qa)) {e : Nat} (he : e ≤ l.length) (hl : l.length ≤ 1000000) : ∀ (n : Nat) (L : List (P Tr)) (out : List (List (BitVec 8))) (fuel : Nat), L.length ≤ n → Fw 0 L e → (∀ x ∈ L, Ok l R out x.1 (2 ^ x.2.1) x.2.2) → (∀ u ∈ out, u.length = 65) → out.length + n ≤ 2000000 → n < fuel →
  ∃ L' out', Q3 (fun (s : (List Int) × (List Qa) × Int × (List (List (BitVec 8)))) => Zv (0 : Int) s.1 s.2.1 s.2.2.1 s.2.2.2) fuel (sz (hR L), hh (hR L), fmI (hR L), out) = some (sz (hR L'), hh (hR L'), -1, out') ∧ Fw 0 L' e ∧ NfF L' ∧ (∀ x ∈ L', Ok l R out' x.1 (2 ^ x.2.1) x.2.2) ∧ (∀ u ∈ out', u.length = 65) ∧ Kn nd [] (hR L') = Kn nd [] (hR L) ∧ out'.length + L'.length = out.length + L.length := by
 intro n
 induction n with
 | zero =>
  intro L out fuel hn hf hok h65 ho hfu
  obtain ⟨fuel, rfl⟩ : ∃ m, fuel = m + 1 := ⟨fuel - 1, by omega⟩
  have : L = [] := List.length_eq_zero_iff.1 (by omega)
  subst this
  refine ⟨[], out, ?_, hf, trivial, (fun x hx => by cases hx), h65, rfl, rfl⟩
  rw [YM (s' := (sz (hR []), hh (hR []), -1, out)) (by
   simp only [Zv]
   rw [show fmI (hR []) = -1 from rfl, QU (by simp)])]
 | succ n ih =>
  intro L out fuel hn hf hok h65 ho hfu
  obtain ⟨fuel, rfl⟩ : ∃ m, fuel = m + 1 := ⟨fuel - 1, by omega⟩
  cases hc : fm L with
  | none =>
   have hfm : fmI (hR L) = -1 := by unfold fmI; rw [Qgp, hc]
   refine ⟨L, out, ?_, hf, Qhu L hc, hok, h65, rfl, rfl⟩
   rw [YM (s' := (sz (hR L), hh (hR L), -1, out)) (by
    simp only [Zv]
    rw [hfm, QU (by simp)])]
  | some j =>
   obtain ⟨A, y, x, B, hL, hA, hk, hd⟩ := Qg2 L j hc
   subst hL
   have hfm : fmI (hR (A ++ y :: x :: B)) = (A.length : Int) := by unfold fmI; rw [Qgp, hc, hA]
   have hf' := QiS (h := Tr.node y.2.2 x.2.2) hf hk hd
   have hle := Wi _ _ _ hf
   simp only [List.length_append, List.length_cons] at hn hle
   obtain ⟨c, c1, c2⟩ := QaG _ _ _ _ hf
   have hlex := Wi _ _ _ c2.2.2.2.2
   have hxy : x.1 = y.1 + 2 ^ y.2.1 := c2.2.2.1
   have hps := YP y.2.1
   have hpo := J2 y.2.1
   have hp2 : 2 ^ x.2.1 = 2 ^ y.2.1 := by rw [hk]
   have o1 := hok y (by simp)
   have o2 := hok x (by simp)
   have hT : ∀ u ∈ out, u ∈ out ++ [txt y.2.2.h x.2.2.h] := fun u hu => List.mem_append_left _ hu
   have onew : Ok l R (out ++ [txt y.2.2.h x.2.2.h]) y.1 (2 ^ (y.2.1 + 1)) (Tr.node y.2.2 x.2.2) := by
    refine Qhv (k := y.2.1) (by omega) (Nat.le_refl _) (by omega) (Qa8 o1 hT) ?_ (by simp)
    rw [show 2 ^ (y.2.1 + 1) - 2 ^ y.2.1 = 2 ^ x.2.1 by omega, ← hxy]
    exact Qa8 o2 hT
   have hok' : ∀ z ∈ A ++ (y.1, y.2.1 + 1, Tr.node y.2.2 x.2.2) :: B, Ok l R (out ++ [txt y.2.2.h x.2.2.h]) z.1 (2 ^ z.2.1) z.2.2 := by
    intro z hz
    rcases List.mem_append.1 hz with hz | hz
    ·exact Qa8 (hok z (by simp [hz])) hT
    ·rcases List.mem_cons.1 hz with rfl | hz
     ·exact onew
     ·exact Qa8 (hok z (by simp [hz])) hT
   have hfh : Fw 0 (hR A ++ (y.1, y.2.1, y.2.2.h) :: (x.1, x.2.1, x.2.2.h) :: hR B) e := by
    have := (QeX Tr.h (A ++ y :: x :: B) 0 e).2 hf
    rw [show W8 Tr.h (A ++ y :: x :: B) = hR A ++ (y.1, y.2.1, y.2.2.h) :: (x.1, x.2.1, x.2.2.h) :: hR B by simp [W8]] at this
    exact this
   have hE : hR (A ++ y :: x :: B) = hR A ++ (y.1, y.2.1, y.2.2.h) :: (x.1, x.2.1, x.2.2.h) :: hR B := by simp [W8]
   have hE' : hR (A ++ (y.1, y.2.1 + 1, Tr.node y.2.2 x.2.2) :: B) = hR A ++ (y.1, y.2.1 + 1, nd y.2.2.h x.2.2.h) :: hR B := by simp [W8, Tr.h]
   obtain ⟨L', out', i1, i2, i3, i4, i5, i6, i7⟩ := ih (A ++ (y.1, y.2.1 + 1, Tr.node y.2.2 x.2.2) :: B) (out ++ [txt y.2.2.h x.2.2.h]) fuel (by rw [List.length_append, List.length_cons]; omega) hf' hok' (fun u hu => by
    rcases List.mem_append.1 hu with hu | hu
    ·exact h65 u hu
    ·rw [List.mem_singleton.1 hu]; exact Qa3 _ _) (by rw [List.length_append, List.length_singleton]; omega) (by omega)
   refine ⟨L', out', ?_, i2, i3, i4, i5, ?_, ?_⟩
   ·have hlA : (hR A).length = A.length := QdC A
    have e1 : JW (hh (hR (A ++ y :: x :: B))) (A.length : Int) = some y.2.2.h := by
     rw [Jm rfl (by rw [Bk, QdC, List.length_append, List.length_cons]; omega)]
     simp [hE, hh, hlA]
    have e2 : JW (hh (hR (A ++ y :: x :: B))) (w64 ((A.length : Int) + 1)) = some x.2.2.h := by
     rw [Qex _ (by omega), Jm rfl (by rw [Bk, QdC, List.length_append, List.length_cons, List.length_cons]; omega)]
     simp only [hE, hh, List.map_append, List.map_cons]
     rw [List.getElem_append_right (by rw [List.length_map, hlA]; omega)]
     simp [hlA]
    have e3 : YE (sz (hR (A ++ y :: x :: B))) (hh (hR (A ++ y :: x :: B))) (A.length : Int) = some (sz (hR (A ++ (y.1, y.2.1 + 1, Tr.node y.2.2 x.2.2) :: B)), hh (hR (A ++ (y.1, y.2.1 + 1, Tr.node y.2.2 x.2.2) :: B))) := by
     rw [hE, hE', ← hlA]
     exact QjT hfh (by omega)
    have hf3 : Fw 0 (hR (A ++ (y.1, y.2.1 + 1, Tr.node y.2.2 x.2.2) :: B)) e := (QeX Tr.h _ 0 e).2 hf'
    have e4 : ZR (0 : Int) (sz (hR (A ++ (y.1, y.2.1 + 1, Tr.node y.2.2 x.2.2) :: B))) = some (fmI (hR (A ++ (y.1, y.2.1 + 1, Tr.node y.2.2 x.2.2) :: B))) := QfC _ 0 e hf3 (by omega)
    rw [Yx (s' := (sz (hR (A ++ (y.1, y.2.1 + 1, Tr.node y.2.2 x.2.2) :: B)), hh (hR (A ++ (y.1, y.2.1 + 1, Tr.node y.2.2 x.2.2) :: B)), fmI (hR (A ++ (y.1, y.2.1 + 1, Tr.node y.2.2 x.2.2) :: B)), out ++ [txt y.2.2.h x.2.2.h])) (by
     simp only [Zv]
     rw [hfm, QI (by rw [decide_eq_true_eq]; omega), Qc e1, Qc e2, Qc (QeM _ _), QI (VW (by rw [List.length_singleton]; omega)), Qc e3, Qc e4]), i1]
   ·rw [i6, hE', hE]
    exact (Qgx nd (a := 0) (hR A) (hR B) (y.1, y.2.1, y.2.2.h) (x.1, x.2.1, x.2.2.h) [] rfl hfh hk hd).symm
   ·simp only [List.length_append, List.length_cons, List.length_nil] at i7 ⊢
    omega
def ft (z : Qa) : List Qa → List (List (BitVec 8))
 | x :: y :: l => txt x (K1 nd z (y :: l)) :: ft z (y :: l)
 | _ => []
theorem QfO (z : Qa) : ∀ (l : List Qa) (x y : Qa), ∀ u ∈ ft z (l ++ [x, y]), u ∈ ft z (l ++ [nd x y]) ∨ u = txt x y
 | [], x, y, u, hu => by
  rcases List.mem_cons.1 hu with rfl | hu
  ·exact .inr rfl
  ·cases hu
 | [w], x, y, u, hu => by
  rcases List.mem_cons.1 hu with rfl | hu
  ·exact .inl (List.mem_cons_self ..)
  ·rcases List.mem_cons.1 hu with rfl | hu
   ·exact .inr rfl
   ·cases hu
 | w :: v :: l, x, y, u, hu => by
  rcases List.mem_cons.1 hu with rfl | hu
  ·left
   show _ ∈ txt w (K1 nd z (v :: l ++ [nd x y])) :: _
   rw [show K1 nd z (v :: l ++ [nd x y]) = K1 nd z (v :: l ++ [x, y]) from (B4 z (v :: l) x y).symm]
   exact List.mem_cons_self ..
  ·rcases QfO z (v :: l) x y u hu with h | h
   ·exact .inl (List.mem_cons_of_mem _ h)
   ·exact .inr h
theorem Qkf (z : Qa) : ∀ (n : Nat) (M : List Qa) (out : List (List (BitVec 8))) (fuel : Nat), M.length ≤ n → (∀ u ∈ out, u.length = 65) → out.length + n ≤ 2000000 → n < fuel →
  ∃ M' out', Q3 (fun (s : (List Qa) × (List (List (BitVec 8)))) => Zx s.1 s.2) fuel (M, out) = some (M', out') ∧ (∀ u ∈ out, u ∈ out') ∧ (∀ u ∈ ft z M, u ∈ out') ∧ (∀ u ∈ out', u.length = 65) ∧ out'.length ≤ out.length + M.length := by
 intro n
 induction n with
 | zero =>
  intro M out fuel hn h65 ho hfu
  obtain ⟨fuel, rfl⟩ : ∃ m, fuel = m + 1 := ⟨fuel - 1, by omega⟩
  have : M = [] := List.length_eq_zero_iff.1 (by omega)
  subst this
  exact ⟨[], out, YM (by simp [Zx]), fun u h => h, (fun u h => by cases h), h65, Nat.le_add_right _ _⟩
 | succ n ih =>
  intro M out fuel hn h65 ho hfu
  obtain ⟨fuel, rfl⟩ : ∃ m, fuel = m + 1 := ⟨fuel - 1, by omega⟩
  by_cases h1 : 1 < M.length
  ·obtain ⟨M0, x, y, rfl⟩ : ∃ M0 x y, M = M0 ++ [x, y] := by
    refine ⟨M.take (M.length - 2), M[M.length - 2], M[M.length - 1], ?_⟩
    have e1 : M.drop (M.length - 2) = [M[M.length - 2], M[M.length - 1]] := by
     rw [List.drop_eq_getElem_cons (by omega), List.drop_eq_getElem_cons (by omega), List.drop_eq_nil_of_le (by omega)]
     simp only [show M.length - 2 + 1 = M.length - 1 by omega]
    rw [← e1, List.take_append_drop]
   rw [List.length_append] at hn h1
   simp only [List.length_cons, List.length_nil] at hn h1
   have w2 : w64 (((M0 ++ [x, y]).length : Int) - 2) = (M0.length : Int) := by rw [List.length_append]; simp only [List.length_cons, List.length_nil]; rw [Ji (by omega) (by omega)]; omega
   have w1 : w64 (((M0 ++ [x, y]).length : Int) - 1) = ((M0.length + 1 : Nat) : Int) := by rw [List.length_append]; simp only [List.length_cons, List.length_nil]; rw [Ji (by omega) (by omega)]; omega
   have g1 : JW (M0 ++ [x, y]) (w64 (((M0 ++ [x, y]).length : Int) - 2)) = some x := by
    rw [w2, Jm rfl (by rw [List.length_append]; simp)]; simp
   have g2 : JW (M0 ++ [x, y]) (w64 (((M0 ++ [x, y]).length : Int) - 1)) = some y := by
    rw [w1, Jm rfl (by rw [List.length_append]; simp), List.getElem_append_right (by omega)]; simp
   have g3 : Zk (M0 ++ [x, y]) 0 (w64 (((M0 ++ [x, y]).length : Int) - 2)) = some M0 := by
    rw [w2, Zt (lo := (0 : Int)) (a := 0) (b := M0.length) rfl rfl (Nat.zero_le _) (by rw [List.length_append]; exact Nat.le_add_right _ _), List.take_left, List.drop_zero]
   clear w1 w2
   obtain ⟨M', out', i1, i2, i3, i4, i5⟩ := ih (M0 ++ [nd x y]) (out ++ [txt x y]) fuel (by rw [List.length_append, List.length_singleton]; omega) (fun u hu => by
    rcases List.mem_append.1 hu with hu | hu
    ·exact h65 u hu
    ·rw [List.mem_singleton.1 hu]; exact Qa3 _ _) (by rw [List.length_append, List.length_singleton]; omega) (by omega)
   refine ⟨M', out', ?_, fun u hu => i2 u (List.mem_append_left _ hu), fun u hu => ?_, i4, ?_⟩
   ·rw [Yx (s' := (M0 ++ [nd x y], out ++ [txt x y])) (by
     simp only [Zx]
     rw [QI (by rw [decide_eq_true_eq, List.length_append]; simp only [List.length_cons, List.length_nil]; omega), Qc g1, Qc g2, Qc (QeM _ _), QI (VW (by rw [List.length_singleton]; omega)), Qc g3, QI (VW (by simp only [List.length_nil]; omega)), Qc g1, Qc g2, Qc (Qdx _ _), QI (VW (by rw [List.nil_append, List.length_singleton]; omega)), List.nil_append]), i1]
   ·rcases QfO z M0 x y u hu with h | h
    ·exact i3 u h
    ·rw [h]; exact i2 _ (by simp)
   ·simp only [List.length_append, List.length_cons, List.length_nil] at i5 ⊢
    omega
  ·refine ⟨M, out, YM (by
    simp only [Zx]
    rw [QU (by rw [decide_eq_true_eq]; omega)]), fun u h => h, fun u h => ?_, h65, by omega⟩
   match M, h1, h with
   | [], _, h => cases h
   | [_], _, h => cases h
   | _ :: _ :: _, h1, _ => simp at h1
theorem Qjd (z : Tr) {T : List (List (BitVec 8))} : ∀ (l : List Tr), (∀ u ∈ ft z.h (l.map Tr.h), u ∈ T) → ∀ A x y B, l = A ++ x :: y :: B → txt x.h (Qc7 z (y :: B)).h ∈ T
 | [], h, A, x, y, B, hl => by cases A <;> cases hl
 | w :: l, h, [], x, y, B, hl => by
  injection hl with e1 e2
  subst e1 e2
  apply h
  rw [Qem]
  exact List.mem_cons_self ..
 | w :: l, h, a :: A, x, y, B, hl => by
  injection hl with e1 e2
  refine Qjd z l (fun u hu => h u ?_) A x y B e2
  match l, hu with
  | v :: l, hu => exact List.mem_cons_of_mem _ hu
  | [], hu => cases hu
theorem Qh6 (l : List Qa) (hl : l.length ≤ 1000000) (hne : l ≠ []) (R : List (P Qa)) (hR0 : Fw 0 R l.length) (hroot : K1 nd WP (hof (Kn nd [] R)) = mth l) :
  ∃ out, Xf (0 : Int) (sz R) (hh R) = some out ∧ out.length ≤ 3000000 ∧ (∀ u ∈ out, u.length = 65) ∧ (Cl out (tts l) ∨ ∀ x ∈ R, x.2.2 = mth (sl l x.1 (2 ^ x.2.1))) := by
 have hRl := Wi _ _ _ hR0
 have hmm : hR (W8 Tr.part R) = R := by
  simp only [hR, W8, List.map_map]
  conv => rhs; rw [← List.map_id R]
  exact List.map_congr_left (fun x _ => rfl)
 have hf : Fw 0 (W8 Tr.part R) l.length := (QeX Tr.part R 0 _).2 hR0
 have hlen : (W8 Tr.part R).length = R.length := by simp [W8]
 obtain ⟨L', out', i1, i2, i3, i4, i5, i6, i7⟩ := QkM l R (Nat.le_refl _) hl R.length (W8 Tr.part R) [] FU (by omega) hf (by
  intro x hx
  obtain ⟨y, hy, rfl⟩ := List.mem_map.1 hx
  exact Qkk hR0 hy) (fun u hu => by cases hu) (by simp; omega) (J4 (by omega))
 rw [hmm] at i1 i6
 rw [hlen, List.length_nil] at i7
 have hL'l := Wi _ _ _ i2
 obtain ⟨M', out'', k1, k2, k3, k4, k5⟩ := Qkf WP L'.length (hh (hR L')) out' FU (by rw [Bk, QdC]; exact Nat.le_refl _) i5 (by omega) (J4 (by omega))
 rw [Bk, QdC] at k5
 have hfirst : ZR (0 : Int) (sz R) = some (fmI R) := QfC R 0 _ hR0 (by omega)
 refine ⟨out'', ?_, by omega, k4, ?_⟩
 ·unfold Xf
  rw [Qc hfirst, Qc i1]
  simp only []
  rw [Qc k1]
 ·have hne' : L' ≠ [] := by
   intro hc
   rw [hc] at i2
   have h0 : 0 = l.length := i2
   exact hne (List.length_eq_zero_iff.1 h0.symm)
  have hnf : Kn nd [] (hR L') = (hR L').reverse := by
   rw [Qdh nd _ [] ((Qi1 Tr.h L').2 i3) (fun y hy => by cases hy), List.append_nil]
  have hhof : hof (Kn nd [] R) = (L'.map (·.2.2)).map Tr.h := by
   rw [← i6, hnf]
   simp [hof, W8, Function.comp_def]
  have hhh : hh (hR L') = (L'.map (·.2.2)).map Tr.h := by simp [hh, W8, Function.comp_def]
  have ok := Qhb (l := l) (R := R) (T := out'') (z := Tr.part WP) L' 0 l.length hne' i2 i3 (fun x hx => Qa8 (i4 x hx) k2) (Nat.le_refl _) (fun i _ => Nat.dvd_zero _) (Qjd (Tr.part WP) _ (by rw [← hhh]; exact k3))
  have hs : sl l 0 (l.length - 0) = l := by unfold sl; rw [List.drop_zero, Nat.sub_zero, List.take_length]
  unfold Ok at ok
  rw [hs] at ok
  have hroot' : (Qc7 (Tr.part WP) (L'.map (·.2.2))).h = mth l := by
   rw [Qem, ← hhof]; exact hroot
  rcases Qc2 _ l ok.1 hroot' with h | h
  ·obtain ⟨u, hu, v, hv, hx⟩ := h
   exact .inl ⟨u, ok.2.1 u hu, v, hv, hx⟩
  ·refine .inr (fun x hx => ok.2.2 h x hx (Nat.zero_le _) ?_)
   have := QeF _ _ _ x hR0 hx
   have := J2 x.2.1
   omega
attribute [local irreducible] X9 K4 Qmg X6 Yu
theorem QlD {out : List (List (BitVec 8))} {l : List Qa} (h1 : out.length ≤ 3000000) (h2 : ∀ u ∈ out, u.length = 65) (hl : l.length ≤ 1000000) (h : Cl out (tts l)) : Ym out (tts l) = some true := by
 obtain ⟨t1, t2⟩ := QcG _ l (Nat.le_refl _)
 exact Qjg _ _ (by omega) (by omega) (fun u hu => by rw [h2 u hu]; omega) (fun u hu => by rw [t2 u hu]; omega) h
theorem Qe5 {r : Qr} (h : (K4 r).2 = 0) : X6 r = true ∧ r.1 = 0 ∧ (K4 r).1 = if r.2.2 = [] then sha [] else K1 nd WP r.2.2 := by
 unfold K4 at h ⊢
 split at h
 ·rename_i hc
  refine ⟨hc.1, hc.2, ?_⟩
  rw [if_pos hc]
  split <;> rfl
 ·cases h
theorem Qlw {H : Type} {L : List (P Qa)} {a e : Nat} (h : Fw a L e) (hne : a ≠ e) : hof (Kn nd [] L) ≠ [] := by
 have hc := WN nd _ [] a _ rfl h
 intro hh
 unfold hof at hh
 have : Kn nd [] L = [] := by simpa using hh
 rw [this] at hc
 exact hne hc
theorem Qi3 (i : Nat) (h : i ≤ 2147483647) : w64 ((i : Int) + (([] : List Qa).length : Int)) = (i : Int) := by
 rw [List.length_nil, Ji (by omega) (by omega)]; exact Int.add_zero _
theorem Qfk {l : List Qa} {m : Nat} (hm : m ≤ l.length) (hl : l.length ≤ 1000000) {R : List (P Qa)} (hf : Fw 0 R m) (hn : NfF R) (hv : ∀ x ∈ R, x.2.2 = mth (sl l x.1 (2 ^ x.2.1))) : (if R.map (fun x => x.2.2) = [] then sha [] else K1 nd WP (R.map (fun x => x.2.2))) = mth (l.take m) := by
 by_cases hne : R = []
 ·subst hne
  have h0 : 0 = m := hf
  subst h0
  rw [if_pos (show List.map (fun x : P Qa => x.2.2) [] = [] from rfl), List.take_zero, Qhx]
 ·rw [if_neg (by simpa using hne)]
  have := Qff (b := 0) (l := l) R 0 m hne hf hn (fun x hx => by
   rw [hv x hx]; unfold vt sl; rw [Nat.sub_zero]) (Nat.le_refl _) (by omega) (fun i _ => Nat.dvd_zero _)
  rw [Nat.sub_zero, Nat.sub_zero, List.drop_zero] at this
  exact this
theorem QeG (l : List Qa) (t : ZQ) (i : Nat) (old : Qa) (hil : i ≤ l.length) (hb : l.length ≤ 40) (hf : t.1.length ≤ 70 ∧ t.2.length ≤ 70) (hE : isG t i l.length old (mth l) = true) (hx : ¬ mth (l.take i) = old) :
  ∃ out, YS t (i : Int) (l.length : Int) [] = some out ∧ VV l = some (tts l) ∧ Ym out (tts l) = some true := by
 unfold isG at hE
 rw [decide_eq_true_eq] at hE
 obtain ⟨h1, h2, h3, g1, g2, h4, g3, h5⟩ := hE
 have ok := QiJ h4
 obtain ⟨j, j2, j3⟩ := Qiv ok
 obtain ⟨f1, f3, e1⟩ := ok
 have r1 := Qe5 g3
 have r0 := Qe5 g1
 rw [j] at h5 r1
 obtain ⟨a1, a2, a3, a4⟩ := Bi f1
 obtain ⟨c1, c2, c3, c4⟩ := Bi f3
 have la := Kj f1
 have lc := Kj f3
 have a1' : Fw 0 (Yu (0, (i : Int), t.1)) i := a1
 have c1' : Fw i (Yu ((i : Int), (l.length : Int), t.2)) l.length := c1
 have hne : l ≠ [] := by
  intro hc
  have h0 : i = 0 := by rw [hc] at hil; simpa using hil
  apply hx
  have := Qfk (l := l) (m := i) hil (by omega) a1' a2 (by
   have hz : Yu (0, (i : Int), t.1) = [] := by
    have := Wi _ _ _ a1'
    exact List.length_eq_zero_iff.1 (by omega)
   rw [hz]
   intro x hx
   cases hx)
  rw [show (Yu (0, (i : Int), t.1)).map (fun x => x.2.2) = t.1 from a4] at this
  rw [← this, ← g2]
  exact r0.2.2.symm
 have hfw : Fw 0 (Yu (0, (i : Int), t.1) ++ Yu ((i : Int), (l.length : Int), t.2)) l.length := QbN _ _ _ _ _ a1' c1'
 have hne0 : hof (Kn nd [] (Yu (0, (i : Int), t.1) ++ Yu ((i : Int), (l.length : Int), t.2))) ≠ [] := Qlw (H := Unit) hfw (by
  intro hc; exact hne (List.length_eq_zero_iff.1 hc.symm))
 have hroot := r1.2.2
 rw [if_neg hne0] at hroot
 have hroot' := hroot.symm.trans h5
 obtain ⟨out, o1, o2, o3, o4⟩ := Qh6 l (by omega) hne _ hfw hroot'
 have sa := Bz 0 i (by omega) (by omega)
 have sb := Bz i i (by omega) (by omega)
 have sc := Bz i l.length (by omega) (by omega)
 have sii : WY i i = [] := Qbk (Nat.le_refl _) rfl
 rw [sii] at sb
 have ea : sz (Yu (0, (i : Int), t.1)) = (WY 0 i).map p2 := a3
 have ec : sz (Yu ((i : Int), (l.length : Int), t.2)) = (WY i l.length).map p2 := c3
 rw [← ea] at sa
 rw [← ec] at sc
 have na : (sz (Yu (0, (i : Int), t.1))).length ≤ 70 := by rw [By, ← Bk, a4]; exact hf.1
 have nc : (sz (Yu ((i : Int), (l.length : Int), t.2))).length ≤ 70 := by rw [By, ← Bk, c4]; exact hf.2
 have hT : YS t (i : Int) (l.length : Int) [] = some out := by
  unfold YS
  have sa' : Zc (0 : Int) (i : Int) = _ := sa
  rw [Qc sa', QI (VW (by simp only [List.length_nil]; omega)), Qi3 i (by omega), Qc sb, QI (VW (by simp only [List.nil_append, List.map_nil, List.length_nil]; omega)), Qc sc, QI (VW (by simp only [List.nil_append, List.length_append, List.map_nil, List.length_nil]; omega)), QI (VW (by simp only [List.length_nil]; omega)), QI (VW (by simp only [List.nil_append, List.length_nil]; omega)), QI (VW (by simp only [List.nil_append, List.length_append, List.length_nil]; omega))]
  have z1 : ([] ++ sz (Yu (0, (i : Int), t.1)) ++ List.map p2 []) ++ sz (Yu ((i : Int), (l.length : Int), t.2)) = sz (Yu (0, (i : Int), t.1) ++ Yu ((i : Int), (l.length : Int), t.2)) := by simp [sz]
  have z2 : ([] ++ t.1 ++ []) ++ t.2 = hh (Yu (0, (i : Int), t.1) ++ Yu ((i : Int), (l.length : Int), t.2)) := by
   have q1 : hh (Yu (0, (i : Int), t.1)) = t.1 := a4
   have q3 : hh (Yu ((i : Int), (l.length : Int), t.2)) = t.2 := c4
   conv => lhs; rw [← q1, ← q3]
   simp [hh]
  rw [z1, z2, Qc o1]
 have hTr : VV l = some (tts l) := QkX FU l (J4 (by omega)) (by omega)
 rcases o4 with o4 | o4
 ·exact ⟨out, hT, hTr, QlD o2 o3 (by omega) o4⟩
 ·exfalso
  apply hx
  have := Qfk (l := l) (m := i) hil (by omega) a1' a2 (fun x hx => o4 x (List.mem_append_left _ hx))
  rw [show (Yu (0, (i : Int), t.1)).map (fun x => x.2.2) = t.1 from a4] at this
  rw [← this, ← g2]
  exact r0.2.2.symm
end Go.Sl.Pu
namespace Go.Sl
namespace Pu
open Go.Sl Go.Sl.M Go.Sl.Fr
def ent (e : Nat) : Qa := sha (0#8 :: (be (BitVec.ofInt 32 (e : Int)) 4 ++ (#v[BitVec.ofInt 8 (e : Int), 0#8, 0#8, 0#8, 0#8, 0#8, 0#8, 0#8, 0#8, 0#8, 0#8, 0#8, 0#8, 0#8, 0#8, 0#8, 0#8, 0#8, 0#8, 0#8, 0#8, 0#8, 0#8, 0#8, 0#8, 0#8, 0#8, 0#8, 0#8, 0#8, 0#8, 0#8] : Qa).toList))
def Wt (n : Nat) : List Qa := (List.range n).map fun i => ent (i + 1)
theorem Wh (n : Nat) : (Wt n).length = n := by simp [Wt]
theorem QhR (n : Nat) : Wt (n + 1) = Wt n ++ [ent (n + 1)] := by simp [Wt, List.range_succ]
theorem QdW {m n : Nat} (h : m ≤ n) : (Wt n).take m = Wt m := by
 unfold Wt
 rw [← List.map_take, List.take_range, Nat.min_eq_left h]
theorem Qj1 (n : Nat) (hn : n ≤ 1000) : Y4 (n : Int) = some (Wt n) := by
 unfold Y4
 obtain ⟨s, h1, h2⟩ := qw (f := fun (s : Int × (List Qa)) => Yo (n : Int) s.1 s.2) (fun (s : Int × (List Qa)) => ∃ i : Nat, i ≤ n ∧ s = (((i + 1 : Nat) : Int), Wt i)) (fun (s : Int × (List Qa)) => n + 1 - s.1.toNat) (fun (s : Int × (List Qa)) => s.2 = Wt n) (by
  rintro s ⟨i, hi, rfl⟩
  simp only [Yo]
  by_cases h : i < n
  ·left
   have hl := Wh i
   rw [QI (by simp; omega), Option.bind_some, Qc (Qgy ((i + 1 : Nat) : Int) _), QI (by simp [AP]; omega), Jr (by omega)]
   exact ⟨_, rfl, ⟨i + 1, by omega, by rw [QhR]; rfl⟩, by dsimp only; omega⟩
  ·right
   rw [QU (by simp; omega)]
   have : i = n := by omega
   subst this
   exact ⟨_, rfl, rfl⟩) FU ((1 : Int), ([] : List Qa)) ⟨0, by omega, rfl⟩ (Nat.lt_of_le_of_lt (Nat.sub_le _ _) (J4 (by omega)))
 rw [Qc h1, h2]
theorem QeO (li : List QZ) (x : QZ) (hl : li.length ≤ 1000) : JL li x = some (decide (x ∈ li)) := by
 unfold JL Zi
 obtain ⟨o, h1, h2⟩ := Wc (f := fun (s : Int) => JK li x s) (fun (s : Int) => ∃ i : Nat, s = (i : Int) ∧ i ≤ li.length ∧ ∀ j (h : j < li.length), j < i → x ≠ li[j]) (fun (s : Int) => li.length - s.toNat)
  (fun (o : Int ⊕ Int) => match o with | .inl _ => x ∉ li | .inr r => 0 ≤ r ∧ x ∈ li) (by
  rintro s ⟨i, rfl, h1, h2⟩
  simp only [JK]
  by_cases hi : i < li.length
  ·rw [QI (by simp; omega), Qc (Jm rfl hi)]
   by_cases he : x = li[i]
   ·right; right
    rw [QI (by simpa using he)]
    exact ⟨_, rfl, by omega, he ▸ List.getElem_mem hi⟩
   ·left
    rw [QU (by simpa using he), Jr (by omega)]
    refine ⟨_, rfl, ⟨i + 1, by simp, by omega, fun j hj hji => ?_⟩, by omega⟩
    rcases Nat.lt_or_ge j i with h | h
    ·exact h2 j hj h
    ·have : j = i := by omega
     subst this; exact he
  ·right; left
   rw [QU (by simp; omega)]
   refine ⟨_, rfl, fun hm => ?_⟩
   obtain ⟨j, hj, hjx⟩ := List.mem_iff_getElem.1 hm
   exact h2 j hj (by omega) hjx.symm) FU (0 : Int) ⟨0, rfl, by omega, fun j _ h => by omega⟩ (Nat.lt_of_le_of_lt (Nat.sub_le _ _) (J4 (by omega)))
 rw [Qc h1]
 cases o with
 | inl s => rw [decide_eq_false (show x ∉ li from h2)]; rfl
 | inr r => rw [decide_eq_true (show x ∈ li from h2.2)]; simp [h2.1]
theorem QiW (pu : List (BitVec 8)) (l : List Sgd) (fo : List Q8) (li : List QZ) (m n : Int) (t : Xs) (hm : 1 ≤ m ∧ m < n) {k1 k2 : Nat} (h1 : JB (some (pu, l, fo, li)) m = some ((k1 : Int), true)) (h2 : JB (some (pu, l, fo, li)) n = some ((k2 : Int), true)) {a b : Sgd} (g1 : l[k1]? = some a) (g2 : l[k2]? = some b) (ht : t.1.length ≤ 4000000000) (hl : li.length ≤ 1000) :
  Vf (pu, l, fo, li) m n t = some (if isG t m n a.1.2.2.2 b.1.2.2.2 = true then ((pu, l, fo, if (m, n) ∈ li then li else li ++ [(m, n)]), 0) else ((pu, l, fo, li), 9)) := by
 unfold Vf
 have e1 : JW l (k1 : Int) = some a := by unfold JW; rw [if_pos (by omega), Int.toNat_natCast, g1]
 have e2 : JW l (k2 : Int) = some b := by unfold JW; rw [if_pos (by omega), Int.toNat_natCast, g2]
 rw [Option.bind_some, QU (by simp; omega), Option.bind_some, QU (by simp; omega), Qc h1, Qc h2]
 dsimp only
 rw [QU (by simp), Option.bind_some, QU (by simp), Qc e1, Qc e2, Qc (Qlc t m n _ _ ht)]
 by_cases h : isG t m n a.1.2.2.2 b.1.2.2.2 = true
 ·rw [if_pos h, QU (by simp [h]), Option.bind_some, Qc (QeO li (m, n) hl)]
  by_cases hx : (m, n) ∈ li
  ·rw [QU (by simp [hx]), if_pos hx]
  ·rw [QI (by simp [hx]), QI (by simp [AP]; omega), if_neg hx]
 ·rw [if_neg h, QI (by simpa using h)]
end Pu
end Go.Sl
namespace Go.Sl
namespace Pu
open Go.Sl Go.Sl.M Go.Sl.Fr
def hdE (e : Nat) : JP := ((e : Int), 1, Vector.replicate 32 0#8, mth (Wt e))
theorem QjF {e : Nat} (h : 1 ≤ e ∧ e ≤ 1000) : WC (hdE e) := ⟨⟨by show (1 : Int) ≤ (e : Int); omega, by show (e : Int) ≤ 2147483647; omega⟩, ⟨Int.le_refl 1, by show (1 : Int) ≤ 2147483647; omega⟩⟩
theorem Qkr {m n : Int} (h : Rch [] m n) : n = m := by
 cases h with
 | refl => rfl
 | step _ hm => cases hm
theorem gossipSound (h : Zf) (n : BitVec 8) (t : ZQ) : Yh h n t = some true := by
 unfold Yh
 obtain ⟨k, hk, hk1, hk2⟩ : ∃ k : Nat, w64 ((1 : Int) + ((n % (20#8)).toNat : Int)) = (k : Int) ∧ 1 ≤ k ∧ k ≤ 20 := by
  have hn : (n % (20#8)).toNat < 20 := by rw [BitVec.toNat_umod]; exact Nat.mod_lt _ (by decide)
  exact ⟨1 + (n % (20#8)).toNat, by rw [Jr (by omega)]; omega, by omega, by omega⟩
 rw [hk, Option.bind_some, Qc Qel, orE, Option.bind_some, orE, Option.bind_some, orE, Option.bind_some, orE, Option.bind_some]
 by_cases hc : (t.1.length ≤ 70 ∧ t.2.length ≤ 70) ∧ 1 ≤ h.1 ∧ h.1 < (k : Int)
 ·obtain ⟨hf, he1, he2⟩ := hc
  rw [QU (by simp; omega), Qc (Qlm h), Option.bind_some]
  by_cases hh : WC h
  ·rw [QU (by simp [hh])]
   obtain ⟨i, hi⟩ : ∃ i : Nat, h.1 = (i : Int) := ⟨h.1.toNat, by omega⟩
   obtain ⟨s, hs, hI⟩ := QfS
   obtain ⟨s2, hs2, hI2⟩ := QcL hI h hh
   have hK := QjF (e := k) ⟨hk1, by omega⟩
   obtain ⟨s3, hs3, hI3⟩ := QcL hI2 (hdE k) hK
   have W1 : Ya s = some VC := Qdo ih1 hI
   have hla := qE h
   have hlb := qE (hdE k)
   have hput := Qc5 VC [] [] [] (Vn h) 0 (Qeo h hh) Qd2 (show 0 ≤ h.1 ∧ h.1 ≤ 2147483647 by omega) (QdS _) (by simp) (by simp) hla
   have e1 : ([] : List Sgd).take 0 ++ [Vn h] ++ ([] : List Sgd).drop 0 = [Vn h] := rfl
   rw [e1] at hput
   have hp1 : WL [Vn h] (hdE k).1 1 := ⟨by simp, fun j hj _ => by
    have : j = 0 := by simpa using hj
    subst this; exact he2, fun j hj hj1 => by simp at hj; omega⟩
   have hput2 := Qc5 VC [Vn h] [] [] (Vn (hdE k)) 1 (Qeo (hdE k) hK) (Qd4 _ (show 0 ≤ h.1 ∧ h.1 ≤ 2147483647 by omega)) (show 0 ≤ (k : Int) ∧ (k : Int) ≤ 2147483647 by omega) hp1 (by simp) (by simp) hlb
   have e2 : [Vn h].take 1 ++ [Vn (hdE k)] ++ [Vn h].drop 1 = [Vn h, Vn (hdE k)] := rfl
   rw [e2] at hput2
   have hsm : qJ [Vn h, Vn (hdE k)] := ⟨by simp, fun x hx => by
    rcases List.mem_cons.1 hx with rfl | hx
    ·exact show 0 ≤ h.1 ∧ h.1 ≤ 2147483647 by omega
    ·rw [List.mem_singleton.1 hx]; exact show 0 ≤ (k : Int) ∧ (k : Int) ≤ 2147483647 by omega⟩
   have hp2 : WL [Vn h, Vn (hdE k)] h.1 0 := ⟨by simp, fun j hj h0 => by omega, fun j hj _ => by
    match j, hj with
    | 0, _ => exact Int.le_refl _
    | 1, _ => exact show h.1 ≤ (k : Int) by omega⟩
   have hp3 : WL [Vn h, Vn (hdE k)] (k : Int) 1 := ⟨by simp, fun j hj h0 => by
    have : j = 0 := by omega
    subst this; exact he2, fun j hj h1 => by
    match j, hj with
    | 1, _ => exact Int.le_refl _⟩
   have pl1 : ∀ li, JB (some (VC, [Vn h, Vn (hdE k)], [], li)) h.1 = some (((0 : Nat) : Int), true) := fun li => by
    have := qF VC _ [] li h.1 0 hsm (by omega) hp2
    rw [decide_eq_true (show ∃ s ∈ [Vn h, Vn (hdE k)][0]?, s.1.1 = h.1 from ⟨_, rfl, rfl⟩)] at this
    exact this
   have pl2 : ∀ li, JB (some (VC, [Vn h, Vn (hdE k)], [], li)) (k : Int) = some (((1 : Nat) : Int), true) := fun li => by
    have := qF VC _ [] li (k : Int) 1 hsm (by omega) hp3
    rw [decide_eq_true (show ∃ s ∈ [Vn h, Vn (hdE k)][1]?, s.1.1 = (k : Int) from ⟨_, rfl, rfl⟩)] at this
    exact this
   have hlk := QiW VC [Vn h, Vn (hdE k)] [] [] h.1 (k : Int) t ⟨he1, he2⟩ (pl1 []) (pl2 []) rfl rfl (by omega) (by simp)
   have hlist : Yz (Wt k) = some (mth (Wt k)) := QaT _ (by rw [Wh]; omega)
   rw [Qc hs, show ((s.1, s.2.1, s.2.2.1, s.2.2.2.1, s.2.2.2.2.1, s.2.2.2.2.2) : Sg) = s from rfl, Qc W1, Qc (Qhy VC QdO), Qc (Qj1 k (by omega)), Qc hs2]
   dsimp only
   rw [Qc (show ZU (VC, [], [], []) (h, BX h) = _ from hput)]
   dsimp only
   rw [QU (by simp), Qc hlist, Option.bind_some, show ((s2.1, s2.2.1, s2.2.2.1, s2.2.2.2.1, s2.2.2.2.2.1, s2.2.2.2.2.2) : Sg) = s2 from rfl, Qc (show Zg s2 ((k : Int), (1 : Int), Vector.replicate 32 0#8, mth (Wt k)) = _ from hs3)]
   dsimp only
   rw [Qc (show ZU (VC, [Vn h], [], []) (hdE k, BX (hdE k)) = _ from hput2)]
   dsimp only
   rw [QU (by simp), Qc hlk]
   by_cases hg : isG t h.1 (k : Int) (Vn h).1.2.2.2 (Vn (hdE k)).1.2.2.2 = true
   ·rw [if_pos hg, if_neg (by simp)]
    dsimp only
    rw [QU (by simp)]
    obtain ⟨b, q1, q2⟩ := Qdp VC [Vn h, Vn (hdE k)] [] ([] ++ [(h.1, (k : Int))]) h.1 (k : Int) (by simp) (pl1 _) (pl2 _)
    have hb : b = true := q2.2 ⟨rfl, rfl, .step .refl (by simp)⟩
    rw [hb] at q1
    rw [Qc q1, QI rfl]
    have hsl : Zk (Wt k) 0 h.1 = some (Wt i) := by
     rw [hi, Zt (lo := (0 : Int)) (a := 0) (b := i) rfl rfl (by omega) (by rw [Wh]; omega), List.drop_zero, QdW (by omega)]
    rw [Qc hsl, Qc (QaT (Wt i) (by rw [Wh]; omega))]
    by_cases hx : h.2.2.2 = mth (Wt i)
    ·rw [QI (by simpa using hx), Option.bind_some, Option.bind_some]
    ·rw [QU (by simpa using hx)]
     have hlen : ((Wt k).length : Int) = (k : Int) := by rw [Wh]
     have hg' : isG t (i : Int) ((Wt k).length : Int) h.2.2.2 (mth (Wt k)) = true := by rw [hlen, ← hi]; exact hg
     obtain ⟨out, o1, o2, o3⟩ := QeG (Wt k) t i h.2.2.2 (by rw [Wh]; omega) (by rw [Wh]; omega) hf hg' (by rw [QdW (by omega)]; exact fun hc => hx hc.symm)
     rw [hlen] at o1
     rw [hi, Qc o1, Qc o2, Qc o3, Option.bind_some, Option.bind_some]
   ·rw [if_neg hg]
    dsimp only
    rw [QI (by simp)]
    obtain ⟨b, q1, q2⟩ := Qdp VC [Vn h, Vn (hdE k)] [] [] h.1 (k : Int) (by simp) (pl1 _) (pl2 _)
    have hb : b = false := by
     cases b with
     | false => rfl
     | true =>
      obtain ⟨_, _, hr⟩ := q2.1 rfl
      have := Qkr hr
      omega
    rw [hb] at q1
    rw [Qc q1]
    rfl
  ·rw [QI (by simp [hh]), Qc Qel]
 ·rw [QI (by
   simp
   omega), Option.bind_some, QI rfl, Qc Qel]
end Pu
end Go.Sl
namespace Go.Sl
abbrev Mem := Nat → Nat → Option Value
def Mle (m m' : Mem) : Prop := ∀ b o v, m b o = some v → m' b o = some v
theorem Mle.refl (m : Mem) : Mle m m := fun _ _ _ h => h
theorem Mle.trans {a b c : Mem} (h : Mle a b) (k : Mle b c) : Mle a c := fun _ _ _ e => k _ _ _ (h _ _ _ e)
structure Slot where
 p : Mem → Value → Prop
 mono : ∀ {m m' : Mem} {v : Value}, Mle m m' → p m v → p m' v
abbrev Env := List (Nat × Slot)
def lk : Env → Nat → Option Slot
 | [], _ => none
 | (t', s) :: Γ, t => bif Nat.beq t' t then some s else lk Γ t
def Y5 (Γ : Env) (m : Mem) (a : Act) : Prop := ∀ t s, lk Γ t = some s → s.p m (a.tmps.getD t undef)
abbrev Hp := List (Nat × TypeId × List Value)
def Hp.bs (hs : Hp) : List Nat := hs.map (·.1)
structure Ent where
 p : Mem → Hp → Prop
 mono : ∀ {m m' : Mem} {h : Hp}, Mle m m' → p m h → p m' h
def Sat : List Ent → Mem → Hp → Prop
 | [], _, hs => hs = []
 | e :: es, m, hs => ∃ h1 h2, hs = h1 ++ h2 ∧ e.p m h1 ∧ Sat es m h2
theorem Sat.mono {m m' : Mem} (hm : Mle m m') : ∀ {H : List Ent} {hs : Hp}, Sat H m hs → Sat H m' hs
 | [], _, h => h
 | _ :: _, _, ⟨h1, h2, e, p, q⟩ => ⟨h1, h2, e, Ent.mono _ hm p, Sat.mono hm q⟩
theorem Sat.append {m : Mem} : ∀ {H1 H2 : List Ent} {h1 h2 : Hp}, Sat H1 m h1 → Sat H2 m h2 → Sat (H1 ++ H2) m (h1 ++ h2)
 | [], _, _, _, h, k => by cases h; simpa using k
 | e :: _, _, _, _, ⟨a, b, he, p, q⟩, k => ⟨a, b ++ _, by simp [he], p, Sat.append q k⟩
theorem Sat.split {m : Mem} : ∀ {H1 H2 : List Ent} {hs : Hp}, Sat (H1 ++ H2) m hs → ∃ h1 h2, hs = h1 ++ h2 ∧ Sat H1 m h1 ∧ Sat H2 m h2
 | [], _, hs, h => ⟨[], hs, rfl, rfl, h⟩
 | e :: _, _, _, ⟨a, b, he, p, q⟩ => by
  obtain ⟨c, d, hb, r, s⟩ := Sat.split q
  exact ⟨a ++ c, d, by simp [he, hb], ⟨a, c, rfl, p, r⟩, s⟩
structure JJ (m : Mem) (hs : Hp) (w : World) : Prop where
 mem : ∀ b o v, m b o = some v → w.cell? ⟨b, o, none⟩ = some v
 nodup : hs.bs.Nodup
 blk : ∀ h ∈ hs, w.heap[h.1]? = some (.cells h.2.2.toArray h.2.1 (0, 0))
 free : ∀ h ∈ hs, ∀ o, m h.1 o = none
structure Frm (w w' : World) (m m' : Mem) (bs bs' : List Nat) : Prop where
 os : w'.os = w.os
 tape : w'.tape = w.tape
 output : w'.output = w.output
 size : w.heap.size ≤ w'.heap.size
 old : ∀ b, b < w.heap.size → b ∉ bs → w'.heap[b]? = w.heap[b]? ∧ ∀ o, m' b o = m b o
 own : ∀ b ∈ bs', b ∈ bs ∨ w.heap.size ≤ b
 le : Mle m m'
theorem Frm.refl (w : World) (m : Mem) (bs : List Nat) : Frm w w m m bs bs := ⟨rfl, rfl, rfl, Nat.le_refl _, fun _ _ _ => ⟨rfl, fun _ => rfl⟩, fun _ h => .inl h, Mle.refl _⟩
theorem Frm.trans {w w1 w2 : World} {m m1 m2 : Mem} {b0 b1 b2 : List Nat} (h : Frm w w1 m m1 b0 b1) (k : Frm w1 w2 m1 m2 b1 b2) : Frm w w2 m m2 b0 b2 where
 os := k.os.trans h.os
 tape := k.tape.trans h.tape
 output := k.output.trans h.output
 size := Nat.le_trans h.size k.size
 old := fun b hb hn => by
  have h1 := h.old b hb hn
  have hn1 : b ∉ b1 := fun e => (h.own b e).elim hn (fun e' => absurd hb (Nat.not_lt.2 e'))
  have h2 := k.old b (Nat.lt_of_lt_of_le hb h.size) hn1
  exact ⟨h2.1.trans h1.1, fun o => (h2.2 o).trans (h1.2 o)⟩
 own := fun b hb => (k.own b hb).elim (h.own b) (fun e => .inr (Nat.le_trans h.size e))
 le := h.le.trans k.le
theorem Frm.sub {w w1 : World} {m m1 : Mem} {b0 b1 b2 : List Nat} (h : Frm w w1 m m1 b0 b1) (k : ∀ b ∈ b2, b ∈ b1) : Frm w w1 m m1 b0 b2 :=
 { h with own := fun b hb => h.own b (k b hb) }
theorem Frm.wide {w w1 : World} {m m1 : Mem} {b0 b1 : List Nat} (r : List Nat) (h : Frm w w1 m m1 b0 b1) : Frm w w1 m m1 (b0 ++ r) (b1 ++ r) :=
 { h with
  old := fun b hb hn => h.old b hb (fun e => hn (List.mem_append.2 (.inl e)))
  own := fun b hb => (List.mem_append.1 hb).elim (fun e => (h.own b e).imp (fun e => List.mem_append.2 (.inl e)) id) (fun e => .inl (List.mem_append.2 (.inr e))) }
structure GP where
 p : Mem → Prop
 mono : ∀ {m m' : Mem}, Mle m m' → p m → p m'
structure Ctx where
 P : Program
 N : Nat
 G : GP
 m0 : Mem
 w0 : World
 b0 : List Nat
 ro : Option Nat := none
 mm : Bool := false
def fen (r : Option Nat) : Fence := { Fence.wide with round := r }
theorem QbA (r : Option Nat) (f : FuncId) : (fen r).fn f := trivial
theorem Qea (r : Option Nat) : (fen r).depth.isSome = true → 1 ≤ 0 := fun h => by cases h
theorem QbW {r : Option Nat} {n : Nat} {P : Program} {f : FuncId} {args : Array Value} {w : World} {R : Ending → World → Prop} : CallsIn (fen r) n P f args w R ↔ Calls P f args w R := callsIn_wide (n := n)
abbrev Qky (D : Nat) : Deferred := ⟨.collected D, #[]⟩
def Dfr (c : Ctx) (ds : List Deferred) (w : World) : Prop :=
 match c.mm with
 | false => ds = []
 | true => ∃ Ds : List Nat, ds = Ds.map Qky ∧ Ds.Nodup ∧ ∀ D ∈ Ds, c.w0.heap.size ≤ D ∧ w.heap[D]? = some (.deferred (some []))
theorem JJ.neD {m : Mem} {hs : Hp} {w : World} (hg : JJ m hs w) {l : Nat} {o : Obj} (ho : w.heap[l]? = some o) (hc : o.isCells = false) : l ∉ hs.bs := by
 intro h
 obtain ⟨x, hx, rfl⟩ := List.mem_map.1 h
 have := hg.blk x hx
 rw [ho] at this
 have := Option.some.inj this
 subst this
 cases hc
theorem Dfr.step {c : Ctx} {ds : List Deferred} {w w' : World} {m m' : Mem} {hs : Hp} {bs : List Nat} (h : Dfr c ds w) (hg : JJ m hs w) (hf : Frm w w' m m' hs.bs bs) : Dfr c ds w' := by
 unfold Dfr at *
 cases hm : c.mm with
 | false => rw [hm] at h; exact h
 | true =>
  rw [hm] at h
  obtain ⟨Ds, e, hn, hD⟩ := h
  refine ⟨Ds, e, hn, fun D hd => ⟨(hD D hd).1, ?_⟩⟩
  have h1 := (hD D hd).2
  exact (hf.old D (Array.getElem?_eq_some_iff.1 h1).1 (hg.neD h1 rfl)).1.trans h1
theorem Dfr.none {c : Ctx} {ds : List Deferred} {w : World} (h : Dfr c ds w) (hm : c.mm = false) : ds = [] := by
 unfold Dfr at h; rw [hm] at h; exact h
def St (c : Ctx) (Γ : Env) (H : List Ent) (a : Act) (w : World) : Prop :=
 Dfr c a.defers w ∧ a.tmps.size = c.N ∧ ∃ m hs, JJ m hs w ∧ c.G.p m ∧ Y5 Γ m a ∧ Sat H m hs ∧ Frm c.w0 w c.m0 m c.b0 hs.bs
theorem Y5.mono {Γ : Env} {m m' : Mem} {a : Act} (hm : Mle m m') (h : Y5 Γ m a) : Y5 Γ m' a := fun t s e => s.mono hm (h t s e)
theorem Zw (d : Nat) (s : Slot) (Γ : Env) : lk ((d, s) :: Γ) d = some s := by simp [lk]
theorem YD {d t : Nat} (h : d ≠ t) (s : Slot) (Γ : Env) : lk ((d, s) :: Γ) t = lk Γ t := by
 show (bif Nat.beq d t then some s else lk Γ t) = lk Γ t
 cases hb : Nat.beq d t
 ·rfl
 ·exact absurd (Nat.eq_of_beq_eq_true hb) h
theorem VI {a : Act} {d : Nat} {v : Value} (h : d < a.tmps.size) : (a.put (some d) v).tmps.getD d undef = v := by
 simp [Act.put, Array.getD, h]
theorem UJ {a : Act} {d t : Nat} {v : Value} (h : d ≠ t) : (a.put (some d) v).tmps.getD t undef = a.tmps.getD t undef := by
 simp only [Act.put, Array.getD]
 by_cases ht : t < a.tmps.size
 ·simp [ht, Array.getElem_setIfInBounds, h]
 ·simp [ht]
theorem Y5.put {Γ : Env} {m : Mem} {a : Act} {d : Nat} {s : Slot} {v : Value} (h : Y5 Γ m a) (hd : d < a.tmps.size) (hv : s.p m v) :
  Y5 ((d, s) :: Γ) m (a.put (some d) v) := by
 intro t s' e
 by_cases ht : d = t
 ·subst ht
  rw [Zw] at e
  cases e
  rw [VI hd]
  exact hv
 ·rw [YD ht] at e
  rw [UJ ht]
  exact h t s' e
theorem XP (a : Act) (d : Option Nat) (v : Value) : (a.put d v).tmps.size = a.tmps.size := by
 cases d <;> simp [Act.put]
theorem YA (a : Act) (d : Option Nat) (v : Value) : (a.put d v).defers = a.defers := by
 cases d <;> simp [Act.put]
inductive Pick {α : Type} : List α → α → List α → Prop
 | here {e : α} {t : List α} : Pick (e :: t) e t
 | next {x e : α} {t t' : List α} : Pick t e t' → Pick (x :: t) e (x :: t')
theorem Pick.perm {α : Type} {l : List α} {e : α} {r : List α} (h : Pick l e r) : l.Perm (e :: r) := by
 induction h with
 | here => exact List.Perm.refl _
 | next _ ih => exact (List.Perm.cons _ ih).trans (List.Perm.swap _ _ _)
theorem Sat.pick {m : Mem} {H : List Ent} {e : Ent} {H' : List Ent} (k : Pick H e H') : ∀ {hs : Hp}, Sat H m hs → ∃ h1 h2, hs.Perm (h1 ++ h2) ∧ e.p m h1 ∧ Sat H' m h2 := by
 induction k with
 | here => intro hs ⟨h1, h2, he, p, q⟩; exact ⟨h1, h2, he ▸ List.Perm.refl _, p, q⟩
 | next _ ih =>
  intro hs ⟨h1, h2, he, p, q⟩
  obtain ⟨g1, g2, hp, r, s⟩ := ih q
  refine ⟨g1, h1 ++ g2, ?_, r, h1, g2, rfl, p, s⟩
  rw [he]
  exact ((List.Perm.append_left h1 hp).trans (by rw [← List.append_assoc, ← List.append_assoc]; exact List.Perm.append_right g2 List.perm_append_comm))
theorem JJ.perm {m : Mem} {hs hs' : Hp} {w : World} (h : JJ m hs w) (p : hs.Perm hs') : JJ m hs' w where
 mem := h.mem
 nodup := (p.map _).nodup_iff.1 h.nodup
 blk := fun x hx => h.blk x (p.mem_iff.2 hx)
 free := fun x hx => h.free x (p.mem_iff.2 hx)
theorem JJ.sub {m : Mem} {hs hs' : Hp} {w : World} (h : JJ m (hs ++ hs') w) : JJ m hs' w where
 mem := h.mem
 nodup := by
  have := h.nodup
  simp only [Hp.bs, List.map_append] at this
  exact (List.nodup_append.1 this).2.1
 blk := fun x hx => h.blk x (List.mem_append.2 (.inr hx))
 free := fun x hx => h.free x (List.mem_append.2 (.inr hx))
theorem Hp.bs_append (a b : Hp) : Hp.bs (a ++ b) = a.bs ++ b.bs := List.map_append
theorem Frm.perm {w w1 : World} {m m1 : Mem} {b0 : List Nat} {hs hs' : Hp} (h : Frm w w1 m m1 b0 hs.bs) (p : hs.Perm hs') : Frm w w1 m m1 b0 hs'.bs :=
 h.sub fun b hb => ((p.map _).mem_iff).2 hb
section
variable {c : Ctx} {Γ Γ' : Env} {H H' : List Ent} {a : Act} {w : World}
theorem St.pick {e : Ent} (h : St c Γ H a w) (k : Pick H e H') : St c Γ (e :: H') a w := by
 obtain ⟨hd, hn, m, hs, hg, hG, he, hsat, hf⟩ := h
 obtain ⟨h1, h2, hp, p, q⟩ := hsat.pick k
 exact ⟨hd, hn, m, h1 ++ h2, hg.perm hp, hG, he, ⟨h1, h2, rfl, p, q⟩, hf.perm hp⟩
theorem St.drop {e : Ent} (h : St c Γ (e :: H) a w) : St c Γ H a w := by
 obtain ⟨hd, hn, m, hs, hg, hG, he, ⟨h1, h2, rfl, _, q⟩, hf⟩ := h
 exact ⟨hd, hn, m, h2, hg.sub, hG, he, q, hf.sub fun b hb => by rw [Hp.bs_append]; exact List.mem_append.2 (.inr hb)⟩
inductive Keep : List Ent → List Ent → Prop
 | nil {H : List Ent} : Keep H []
 | cons {H H1 H2 : List Ent} {e : Ent} : Pick H e H1 → Keep H1 H2 → Keep H (e :: H2)
theorem Sat.keep {H H' : List Ent} (k : Keep H H') : ∀ {m : Mem} {hs : Hp}, Sat H m hs → ∃ r hs', hs.Perm (r ++ hs') ∧ Sat H' m hs' := by
 induction k with
 | nil => intro m hs _; exact ⟨hs, [], by simp, rfl⟩
 | cons k _ ih =>
  intro m hs h
  obtain ⟨h1, h2, hp, p, q⟩ := h.pick k
  obtain ⟨r, h3, hp2, q3⟩ := ih q
  refine ⟨r, h1 ++ h3, hp.trans ((List.Perm.append_left h1 hp2).trans ?_), h1, h3, rfl, p, q3⟩
  rw [← List.append_assoc, ← List.append_assoc]
  exact List.Perm.append_right h3 List.perm_append_comm
theorem St.keep (h : St c Γ H a w) (k : Keep H H') : St c Γ H' a w := by
 obtain ⟨hd, hn, m, hs, hg, hG, he, hsat, hf⟩ := h
 obtain ⟨r, hs', hp, q⟩ := hsat.keep k
 have hg' := hg.perm hp
 exact ⟨hd, hn, m, hs', hg'.sub, hG, he, q, (hf.perm hp).sub fun b hb => by rw [Hp.bs_append]; exact List.mem_append.2 (.inr hb)⟩
def Imp (Γ : Env) (t : Nat) (s : Slot) : Prop := ∀ m a, Y5 Γ m a → s.p m (a.tmps.getD t undef)
inductive SubE : Env → Env → Prop
 | nil {Γ : Env} : SubE Γ []
 | cons {Γ Γ' : Env} {t : Nat} {s : Slot} : Imp Γ t s → SubE Γ Γ' → SubE Γ ((t, s) :: Γ')
theorem Imp.of_lk {Γ : Env} {t : Nat} {s : Slot} (h : lk Γ t = some s) : Imp Γ t s := fun _ _ e => e t s h
theorem SubE.ok {Γ Γ' : Env} (h : SubE Γ Γ') : ∀ {m : Mem} {a : Act}, Y5 Γ m a → Y5 Γ' m a := by
 induction h with
 | nil => intro m a _ t s e; simp [lk] at e
 | @cons Γ' t s h1 _ ih =>
  intro m a he t' s' e
  by_cases ht : t = t'
  ·subst ht
   rw [Zw] at e
   cases e
   exact h1 m a he
  ·rw [YD ht] at e
   exact ih he t' s' e
theorem St.sub (h : St c Γ H a w) (k : SubE Γ Γ') : St c Γ' H a w := by
 obtain ⟨hd, hn, m, hs, hg, hG, he, hsat, hf⟩ := h
 exact ⟨hd, hn, m, hs, hg, hG, k.ok he, hsat, hf⟩
end
def W4 (P : Program) (k : Value → World → Prop) : Result Next → Prop
 | .ok (.value v) w => k v w
 | .ok .skip w => k undef w
 | .ok (.enter f args) w => Calls P f args w fun e w' => ∃ v, e = .returned v ∧ k v w'
 | .ok (.round l f tmps assign body) w => RoundIn Fence.wide 0 P l f tmps assign body w fun e w' => ∃ v, e = .returned v ∧ k v w'
 | _ => False
theorem W4.noDefer {P : Program} {o : Oper} {ρ : Operand → Value} {w : World} {k : Value → World → Prop} (h : W4 P k ((execOp ρ o).run P w)) : ∀ c, o.op ≠ .defer c := by
 intro c hc
 unfold execOp at h
 rw [hc] at h
 simp only [Sem.run_bind] at h
 generalize (resolve ρ c _).run P w = r at h
 cases r with
 | halt x w' => exact h.elim
 | ok d w' => exact h.elim
theorem W4.wp {P : Program} {r : Option Nat} {o : Oper} {a : Act} {w : World} {k : Value → World → Prop} {K : Act → World → Prop} {Q : Exit → Act → World → Prop}
  (h : W4 P k ((execOp a.eval o).run P w)) (hk : ∀ v w', k v w' → K (a.put o.dst v) w') : o.wpIn (fen r) 0 P a w K Q := by
 refine ⟨fun f _ => QbA r f, ?_⟩
 rw [Oper.semAt_eq _ _ _ h.noDefer]
 generalize (execOp a.eval o).run P w = r at h
 cases r with
 | halt x w' => exact h.elim
 | ok n w' =>
  cases n with
  | value v => exact hk _ _ h
  | skip => exact hk _ _ h
  | enter f args =>
   refine ⟨Qea _, QbW.2 (Calls.mono h ?_)⟩
   rintro e w'' ⟨v, rfl, hv⟩
   exact hk _ _ hv
  | round l f tmps assign body =>
   refine ⟨Qea _, RoundIn.mono h ?_⟩
   rintro e w'' ⟨v, rfl, hv⟩
   exact hk _ _ hv
  | _ => exact h.elim
theorem W4.mono {P : Program} {k k' : Value → World → Prop} {r : Result Next} (h : W4 P k r) (hk : ∀ v w, k v w → k' v w) : W4 P k' r := by
 cases r with
 | halt x w' => exact h.elim
 | ok n w' =>
  cases n with
  | value v => exact hk _ _ h
  | skip => exact hk _ _ h
  | enter f args =>
   refine Calls.mono h ?_
   rintro e w'' ⟨v, rfl, hv⟩
   exact ⟨v, rfl, hk _ _ hv⟩
  | round l f tmps assign body =>
   refine RoundIn.mono h ?_
   rintro e w'' ⟨v, rfl, hv⟩
   exact ⟨v, rfl, hk _ _ hv⟩
  | _ => exact h.elim
def Opd (Γ : Env) (m : Mem) (a : Act) : Operand → Prop
 | .tmp t => ∀ s, lk Γ t = some s → s.p m (a.tmps.getD t undef)
 | _ => True
def QdY (o : Oper) (Γ : Env) (m : Mem) (a : Act) : Prop := ∀ x ∈ o.op.operands, Opd Γ m a x
theorem Y5.opd {Γ : Env} {m : Mem} {a : Act} (h : Y5 Γ m a) (x : Operand) : Opd Γ m a x := by
 cases x <;> simp only [Opd]
 exact fun s e => h _ s e
def Has (Γ : Env) (x : Operand) (s : Slot) : Prop := ∀ m a, Opd Γ m a x → s.p m (a.eval x)
theorem Zy {Γ : Env} {t : Nat} {s : Slot} (h : lk Γ t = some s) : Has Γ (.tmp t) s := fun _ _ k => k s h
def PJ (c : Ctx) (o : Oper) (Γ : Env) (H : List Ent) (s : Slot) : Prop :=
 ∀ m hs a w, JJ m hs w → c.G.p m → Sat H m hs → QdY o Γ m a →
  W4 c.P (fun v w' => ∃ m', JJ m' hs w' ∧ s.p m' v ∧ Frm w w' m m' [] []) ((execOp a.eval o).run c.P w)
def Jc (c : Ctx) (full : Array Oper) (l : List Oper) (Γ : Env) (H : List Ent) (K : Act → World → Prop) : Prop :=
 ∀ a w Q, (∀ a' w', K a' w' → Q .normal a' w') → St c Γ H a w → wpListIn (fen c.ro) 0 c.P full Q l a w
theorem Sat.frm {H : List Ent} {m m' : Mem} {hs : Hp} {w w' : World} (h : Sat H m hs) (f : Frm w w' m m' [] []) : Sat H m' hs := h.mono f.le
theorem Frm.keepOwn {w w' : World} {m m' : Mem} (f : Frm w w' m m' [] []) (bs : List Nat) : Frm w w' m m' bs bs := by simpa using f.wide bs
section
variable {c : Ctx} {full : Array Oper} {l : List Oper} {Γ Γ' : Env} {H H' : List Ent} {K : Act → World → Prop}
theorem Qar {o : Oper} {d : Nat} {s : Slot} (h : PJ c o Γ H s) (hg : o.guard = none) (hd : o.dst = some d) (hN : Nat.blt d c.N = true)
  (k : Jc c full l ((d, s) :: Γ) H K) : Jc c full (o :: l) Γ H K := by
 intro a w Q hQ ⟨hdf, hn, m, hs, hgd, hG, he, hsat, hf⟩
 refine wpListIn_plain hg fun K' hK' => ?_
 refine W4.wp (h m hs a w hgd hG hsat fun x _ => he.opd x) ?_
 rintro v w' ⟨m', hgd', hv, hfr⟩
 refine hK' _ _ (k _ w' Q hQ ⟨by rw [YA]; exact hdf.step hgd (hfr.keepOwn _), by rw [XP]; exact hn, m', hs, hgd', c.G.mono hfr.le hG, ?_, hsat.frm hfr, hf.trans (hfr.keepOwn _)⟩)
 rw [hd]
 exact (he.mono hfr.le).put (by rw [hn]; simpa [Nat.blt_eq] using hN) hv
theorem QjW (h : Keep H H') (k : Jc c full l Γ H' K) : Jc c full l Γ H K := fun a w Q hQ hst => k a w Q hQ (hst.keep h)
theorem Ql5 (h : SubE Γ Γ') (k : Jc c full l Γ' H K) : Jc c full l Γ H K := fun a w Q hQ hst => k a w Q hQ (hst.sub h)
theorem WM {o : Oper} {j : Nat} {want : Bool} {t : Nat} {s : Slot} (hg : o.guard = some (j, want)) (hj : (full[j]?).bind (·.dst) = some t) (hN : Nat.blt t c.N = true)
  (hl : lk Γ t = some s) (hb : ∀ m v, s.p m v → v = .bool want)
  (k : Jc c full ({ o with guard := none } :: l) Γ H K) : Jc c full (o :: l) Γ H K := by
 intro a w Q hQ hst
 have hst' := hst
 obtain ⟨hdf, hn, m, hs, hgd, hG, he, hsat, hf⟩ := hst
 have hv := hb m _ (he t s hl)
 have hlt : t < a.tmps.size := by rw [hn]; simpa [Nat.blt_eq] using hN
 have hy : yielded full a.tmps j = some want := by
  simp only [yielded, hj, Option.bind_some, Array.getElem?_eq_getElem hlt]
  simp only [Array.getD, hlt, dite_true] at hv
  simp only [Array.getInternal_eq_getElem] at hv
  rw [hv]
 have hk := k a w Q hQ hst'
 have hw : Region.wanted o (yielded full a.tmps) = true := by simp [Region.wanted, hg, hy]
 have hw' : Region.wanted { o with guard := none } (yielded full a.tmps) = true := rfl
 simp only [wpListIn, hw, hw', if_true] at hk ⊢
 exact hk
end
section
variable {c : Ctx} {Γ Γ' : Env} {H H' : List Ent} {a : Act} {w : World} {Q : Exit → Act → World → Prop}
end
def UL (m : Mem) : List Slot → List Value → Prop
 | [], vs => vs = []
 | s :: ss, vs => ∃ v vs', vs = v :: vs' ∧ s.p m v ∧ UL m ss vs'
theorem UL.mono {m m' : Mem} (hm : Mle m m') : ∀ {ss : List Slot} {vs : List Value}, UL m ss vs → UL m' ss vs
 | [], _, h => h
 | s :: _, _, ⟨v, vs', e, p, q⟩ => ⟨v, vs', e, s.mono hm p, UL.mono hm q⟩
def Ctr (P : Program) (G : GP) (f : FuncId) (A : List Slot) (E : List Ent) {ι : Type} (ρ : ι → Slot) (ε : ι → List Ent) : Prop :=
 ∀ m w vs hs, JJ m hs w → G.p m → UL m A vs → Sat E m hs →
  Calls P f vs.toArray w fun e w' => ∃ v m' hs' i, e = .returned v ∧ JJ m' hs' w' ∧ (ρ i).p m' v ∧ Sat (ε i) m' hs' ∧ Frm w w' m m' hs.bs hs'.bs
def Qbi (c : Ctx) {ι : Type} (ρ : ι → Slot) (ε : ι → List Ent) (e : Ending) (w' : World) : Prop :=
 ∃ v m' hs' i, e = .returned v ∧ JJ m' hs' w' ∧ (ρ i).p m' v ∧ Sat (ε i) m' hs' ∧ Frm c.w0 w' c.m0 m' c.b0 hs'.bs
def BK : Nat → List Slot → Env
 | _, [] => []
 | k, s :: ss => (k, s) :: BK (k + 1) ss
theorem QaE {m : Mem} : ∀ (ss : List Slot) (k : Nat) (vs pre post : List Value), UL m ss vs → pre.length = k →
  ∀ t s, lk (BK k ss) t = some s → s.p m ((pre ++ vs ++ post).toArray.getD t undef)
 | [], _, _, _, _, _, _, _, _, e => by simp [BK, lk] at e
 | s0 :: ss, k, vs, pre, post, ⟨v, vs', hvs, p, q⟩, hk, t, s, e => by
  subst hvs
  by_cases ht : k = t
  ·subst ht
   simp only [BK, Zw] at e
   cases e
   have : (pre ++ (v :: vs') ++ post).toArray.getD k undef = v := by
    simp [Array.getD, ← hk]
   rw [this]; exact p
  ·simp only [BK] at e
   rw [YD ht] at e
   have := QaE ss (k + 1) vs' (pre ++ [v]) post q (by simp [hk]) t s e
   simpa using this
theorem UL.length {m : Mem} : ∀ {ss : List Slot} {vs : List Value}, UL m ss vs → vs.length = ss.length
 | [], _, h => by cases h; rfl
 | _ :: _, _, ⟨_, _, e, _, q⟩ => by subst e; simp [q.length]
theorem QfI {P : Program} {G : GP} {f : FuncId} {fn : Func} {code : Code} {N : Nat} {A : List Slot} {E : List Ent} {ι : Type} {ρ : ι → Slot} {ε : ι → List Ent}
  (hf : P.funcs[f]? = some fn) (hb : fn.body = some code) (hN : fn.ntmps = N) (hA : Nat.ble A.length N = true)
  (h : ∀ c : Ctx, c.P = P → c.N = N → c.G = G → c.ro = none → c.mm = false → ∀ a w, St c (BK 0 A) E a w → code.wpIn (fen none) 0 P (bodyPost P fn (Qbi c ρ ε)) a w) : Ctr P G f A E ρ ε := by
 intro m w vs hs hg hG hvs hsat
 have hst : St ⟨P, N, G, m, w, hs.bs, none, false⟩ (BK 0 A) E { tmps := vs.toArray ++ Array.replicate (fn.ntmps - vs.toArray.size) undef, defers := [] } w := by
  refine ⟨rfl, ?_, m, hs, hg, hG, ?_, hsat, Frm.refl _ _ _⟩
  ·have := hvs.length
   simp only [Array.size_append, List.size_toArray, Array.size_replicate, hN, this]
   have := Nat.ble_eq ▸ hA
   omega
  ·intro t s e
   have := QaE A 0 vs [] (List.replicate (fn.ntmps - vs.toArray.size) undef) hvs rfl t s e
   have e2 : (([] : List Value) ++ vs ++ List.replicate (fn.ntmps - vs.toArray.size) undef).toArray = vs.toArray ++ Array.replicate (fn.ntmps - vs.toArray.size) undef := by simp
   rw [e2] at this
   exact this
 have hw := h ⟨P, N, G, m, w, hs.bs, none, false⟩ rfl rfl rfl rfl rfl _ w hst
 have hc := calls_of_wp (R := Qbi ⟨P, N, G, m, w, hs.bs, none, false⟩ ρ ε) hf hb (wpIn_wide.1 hw)
 refine hc.mono ?_
 intro e w' hp
 exact hp
end Go.Sl
