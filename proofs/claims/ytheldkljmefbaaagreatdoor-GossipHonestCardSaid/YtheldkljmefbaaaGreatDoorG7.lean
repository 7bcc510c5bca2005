import Derived.Test.YtheldkljmefbaaaGreatDoorG6
import Derived.Test.YtheldkljmefbaaaGreatDoorG4
import Derived.Test.YtheldkljmefbaaaGreatDoorProg
set_option linter.unusedSimpArgs false
set_option linter.unusedVariables false
set_option linter.unusedSectionVars false
namespace Go.Sl.W
open Go.Proofs Go.Sl Go.Sl.M
set_option maxHeartbeats 4000000
set_option maxRecDepth 100000
theorem K6 {G : GP} (hg0 : HG0 G) (hg1 : HG1 G) (hg2 : HG2 G) {p_s : Int × Int × Qa × (Option Qy) × (Option Qy) × Int} {p_h : Kb} {b_s : Nat} {r : (Int × Int × Qa × (Option Qy) × (Option Qy) × Int) × Qr} (h : Zy p_s p_h = some r) : Ctr Tryz.prog G 22 [val (.pointer (some ⟨b_s, 0, none⟩)), X0.slot p_h] [box b_s 102 (prod i64 (prod i64 (prod Qb (prod (ptr QI) (prod (ptr QI) i64))))) (p_s.1, p_s.2.1, p_s.2.2.1, p_s.2.2.2.1, p_s.2.2.2.2.1, p_s.2.2.2.2.2)] (fun (_ : Unit) => Qg.slot r.2) (fun (_ : Unit) => [box b_s 102 (prod i64 (prod i64 (prod Qb (prod (ptr QI) (prod (ptr QI) i64))))) (r.1.1, r.1.2.1, r.1.2.2.1, r.1.2.2.2.1, r.1.2.2.2.2.1, r.1.2.2.2.2.2)]) := by
 unfold Zy at h
 refine Qp Tryz.func22 rfl 21 rfl rfl fun m0 w0 b0 => ?_
 show Run _ _ _ [(0, val (.pointer (some ⟨b_s, 0, none⟩))), (1, X0.slot p_h)] _
 refine rs <| rt <| jq (Q0 (ht rfl)) ?_
 refine al (x := ((0, 0, (Vector.replicate 32 (0#8)), (Vector.replicate 32 (0#8))), ([] : List (BitVec 8)))) (R := Qg) (Qk (Qk Qx (Qk Qx (Qk (QA 32 QH) (QA 32 QH)))) Jp) fun b1 => ?_
 refine Qd <| rs <| rt <| jm ?_
 refine jq (pft (ht rfl) .f) ?_
 refine jl ?_
 refine jq (Jo (k := .u64) (b := 64) rfl rfl (by kernel_rfl) (ht rfl) Qh) ?_
 refine jq (Qb2 (k := .u64) (b := 64) (ht rfl) (QE (x := 8#64) rfl) (by decide)) ?_
 refine jq (QbK (by kernel_rfl) (ht rfl) JY) ?_
 refine jl ?_
 obtain ⟨r1, e1, h⟩ := bs h
 refine jc tl3 (QeZ hg0 hg1 hg2 e1) (.cons (.next .here) <| .nil) fun _ => ?_
 refine jm ?_
 refine jx ?_
 refine jx ?_
 refine al (x := ((0, 0, (Vector.replicate 32 (0#8)), (Vector.replicate 32 (0#8))), ([] : List (BitVec 8)))) (R := Qg) (Qk (Qk Qx (Qk Qx (Qk (QA 32 QH) (QA 32 QH)))) Jp) fun b2 => ?_
 refine jk (r' := r1.2.1) (ht rfl) (ht rfl) .here .a ?_
 refine ja ?_
 refine Qd <| rs <| rt <| jl ?_
 refine jq (pfp (off := 0) (ht rfl)) ?_
 refine jk (r' := (p_h, r1.2.1.2)) (ht rfl) (ht rfl) .here (.t .a .f) ?_
 refine Qd <| rs <| rt <| jq (plb (ht rfl) .here .a) ?_
 refine jk (r' := (p_h, r1.2.1.2)) (ht rfl) (ht rfl) (.next (.next .here)) .a ?_
 refine Qd ?_
 obtain rfl := oi h
 exact Qo fun a w hst => QL hst rfl (.cell rfl .here (by kernel_rfl)) () (fun _ _ h => h) (.cons (.next (.next .here)) <| .nil)
theorem qw {G : GP} {p_p : Option Zb} {p_e : Int} : Ctr Tryz.prog G 66 [(ptr Ja).slot p_p, i64.slot p_e] [] (fun (_ : Unit) => fnS 113 [Qt (ptr Ja) p_p, Qt i64 p_e]) (fun (_ : Unit) => []) := by
 refine Qp Tryz.func66 rfl 6 rfl rfl fun m0 w0 b0 => ?_
 show Run _ _ _ [(0, (ptr Ja).slot p_p), (1, i64.slot p_e)] _
 refine rs <| rt <| jq (Q0 (ht rfl)) ?_
 refine jq (Q0 (ht rfl)) ?_
 refine jq (pa (s := any) (fun _ _ _ => trivial)) ?_
 refine Qd <| rs <| rt <| jq (Wy tl2) ?_
 refine ja ?_
 exact Qd <| Qo fun a w hst => QL hst rfl (.tmp rfl) () (fun _ _ h => h) .nil
theorem Bx {G : GP} {Sy : Type} {yl : Sy → Int → Option Sy} {q_0 : Option Zb} {q_1 : Int} {s0 : Sy} {L : Nat} {rc : Loop} {E : Sy → Ent} {r : Sy} (hY : ∀ s d s', yl s d = some s' → Qag Tryz.prog G L rc (i64.slot d) (E s) (E s')) (h : Xa yl q_0 q_1 s0 = some r) : Qgs Tryz.prog G L rc 113 [val (yv L), Qt (ptr Ja) q_0, Qt i64 q_1] [E s0] (fun (_ : Unit) => tup []) (fun (_ : Unit) => [E r]) := by
 unfold Xa at h
 refine Wq Tryz.func113 rfl 27 rfl rfl fun m0 w0 b0 hl hb => ?_
 show Run _ _ _ [(0, val (yv L)), (1, Qt (ptr Ja) q_0), (2, Qt i64 q_1)] _
 refine rs <| rt <| jl ?_
 obtain ⟨x1, e1, h⟩ := bs h
 refine jq (JC (ht rfl) e1) ?_
 refine jq (pft (ht rfl) (.t .s (.t .s .s))) ?_
 refine jl ?_
 refine jq (QX (sz := 2) (ht rfl) (by kernel_rfl)) ?_
 refine jq (pm Qe) ?_
 refine Qd ?_
 obtain ⟨⟨y4, y5⟩, e8, h⟩ := bs h
 refine Q2 (Γi := fun (i : Unit) (s : Int × Sy) => [(0, val (yv L)), (2, Qt i64 q_1), (9, (sl Ql).slot x1.2.2.2), (10, i64.slot (x1.2.2.2.length : Int)), (11, i64.slot s.1)]) (Hi := fun (i : Unit) (s : Int × Sy) => [E s.2]) e8 () (fun a w hst => (hst.sub .k5).keep .h1) ?_ ?_
 ·clear h e8
  rintro _ ⟨y1, y2⟩ lr h
  change Yv x1 q_1 yl y1 y2 = some _ at h
  show Run _ _ _ [(0, val (yv L)), (2, Qt i64 q_1), (9, (sl Ql).slot x1.2.2.2), (10, i64.slot (x1.2.2.2.length : Int)), (11, i64.slot y1)] [E y2]
  unfold Yv at h
  refine rs <| rt <| jq (Q7 (ht rfl) (ht rfl)) ?_
  refine Qd <| rs <| Qn (ht rfl) (fun e2 => ?_) (fun e2 => ?_)
  ·replace h := bt e2 h
   refine Qm <| rs <| QJ <| rs <| rt ?_
   obtain ⟨x2, e3, h⟩ := bs h
   refine jq (pix (ht rfl) (ht rfl) Qh e3) ?_
   refine jl ?_
   refine al (x := (0, 0)) (R := Ql) (Qk Qx Qx) fun b1 => ?_
   refine jk (r' := x2) (ht rfl) (ht rfl) .here .a ?_
   refine Jd (t := 5) .here (.of_lk rfl) ?_
   refine Qd <| rs <| rt <| jq (pft (ht rfl) .f) ?_
   refine jl ?_
   refine jl ?_
   refine jq (ZJ (ht rfl) (ht rfl)) ?_
   refine jm ?_
   rcases Jl (decide (x2.1 = q_1)) with e4 | e4
   ·replace h := bt e4 h
    refine jz (pm (ht rfl)) e4 ?_
    refine jz (pft (ht rfl) .s) e4 ?_
    refine jz (plt (ht rfl)) e4 ?_
    obtain ⟨y3, e5, h⟩ := bs h
    refine QbI rfl rfl rfl rfl (QdO e4) (QgM (ht rfl) (ht rfl) hl hb (hY _ _ _ e5) rfl ?_)
    refine jz (ZI (ht rfl)) e4 ?_
    refine jq (QbZ (t := any) (ht rfl) (fun _ => (ht rfl)) (fun he => absurd (e4.symm.trans he) (by decide))) ?_
    refine Qd <| Yi (ht rfl) rfl ?_
    refine Qm <| Qs <| rt <| jq (QW (ht rfl) Qe) ?_
    refine jm ?_
    refine Qd ?_
    obtain rfl := oi h
    exact QZ () .k5 .h1
   ·replace h := bf e4 h
    refine jn e4 ?_
    refine jn e4 ?_
    refine jn e4 ?_
    refine jn e4 ?_
    refine jn e4 ?_
    refine jq (QbZ (t := any) (ht rfl) (fun he => absurd (e4.symm.trans he) (by decide)) (fun _ => QU)) ?_
    refine Qd <| Yi (ht rfl) rfl ?_
    refine Qm <| Qs <| rt <| jq (QW (ht rfl) Qe) ?_
    refine jm ?_
    refine Qd ?_
    obtain rfl := oi h
    exact QZ () .k5 .h1
  ·replace h := bf e2 h
   obtain rfl := oi h
   exact Jf () .k5 .h1
 ·rintro _
  show Run _ _ _ [(0, val (yv L)), (2, Qt i64 q_1), (9, (sl Ql).slot x1.2.2.2), (10, i64.slot (x1.2.2.2.length : Int)), (11, i64.slot y4)] [E y5]
  refine Q9 (Γ' := []) (H' := [E y5]) (.nil) .h1 ?_
  obtain rfl := oi h
  exact YV fun a w hst => Ki hst rfl (.nil) rfl () (fun _ _ h => h) .h1
theorem YZ {G : GP} {p_p : Option Zb} {p_m : Int} {p_n : Int} {r : Bool} (h : JW p_p p_m p_n = some r) : Ctr Tryz.prog G 25 [(ptr Ja).slot p_p, i64.slot p_m, i64.slot p_n] [] (fun (_ : Unit) => bl.slot r) (fun (_ : Unit) => []) := by
 unfold JW at h
 refine BH Tryz.func25 rfl 71 rfl rfl fun m0 w0 b0 => ?_
 refine Wa fun Qf hq1 hq2 => ?_
 show Run _ _ _ [(0, (ptr Ja).slot p_p), (1, i64.slot p_m), (2, i64.slot p_n)] _
 refine rs <| rt <| jq (pa QU) ?_
 refine Qd <| rs <| rs <| rt <| jm ?_
 refine jq (WX (E := 116) (by kernel_rfl) (ht rfl)) ?_
 refine Qd <| Qn (ht rfl) (fun e1 => ?_) (fun e1 => ?_)
 ·replace h := bt e1 h
  refine rs <| rt <| jq (pa QU) ?_
  refine Qd ?_
  obtain rfl := oi h
  exact Qo fun a w hst => B7 hst rfl (.tmp rfl) () (fun _ _ h => h) (.nil)
 ·replace h := bf e1 h
  refine Qm <| rs <| rt <| jm ?_
  refine jm ?_
  obtain ⟨r1, e2, h⟩ := bs h
  refine jq (pc tl2 (Xb e2)) ?_
  refine jm ?_
  refine jx ?_
  refine jx ?_
  refine ja ?_
  refine ja ?_
  refine Qd <| rs <| rt <| jm ?_
  refine jm ?_
  obtain ⟨r2, e3, h⟩ := bs h
  refine jq (pc tl2 (Xb e3)) ?_
  refine jm ?_
  refine jx ?_
  refine jx ?_
  refine ja ?_
  refine ja ?_
  refine Qd <| rs <| rs <| rt <| jm ?_
  refine jq (ZI (ht rfl)) ?_
  refine jm ?_
  obtain ⟨y1, e5, h⟩ := bs h
  refine Jz (ι := Unit) (Γ' := fun _ => [(0, (ptr Ja).slot p_p), (1, i64.slot p_m), (2, i64.slot p_n), (35, bl.slot y1)]) (H' := fun _ => []) 3 ?_ fun J => ?_
  ·intro _
   clear e5
   show Jc _ _ _ [(0, (ptr Ja).slot p_p), (1, i64.slot p_m), (2, i64.slot p_n), (35, bl.slot y1)] [] _
   refine Qd <| Qn (ht rfl) (fun e6 => ?_) (fun e6 => ?_)
   ·replace h := bt e6 h
    refine rs <| rt <| jq (pa QU) ?_
    refine Qd ?_
    obtain rfl := oi h
    exact Qo fun a w hst => B7 hst rfl (.tmp rfl) () (fun _ _ h => h) (.nil)
   ·replace h := bf e6 h
    refine Qm <| rs <| rt <| jm ?_
    refine V4 (T := 3) (R := i64) (.cons (ht rfl) .nil) rfl (by kernel_rfl) (by kernel_rfl) rfl fun v1 => ?_
    refine al (x := ([] : List Int)) (R := (sl i64)) Jp fun b1 => ?_
    refine W7 (ht rfl) (ht rfl) .here (by kernel_rfl) (by kernel_rfl) ?_
    refine Qd <| rs <| rs <| rt <| jq (pa Qe) ?_
    refine Qd ?_
    obtain ⟨o, e17, h⟩ := bs h
    refine VZ (Γi := fun (i : Value) (s : Int × (List Int)) => [(0, (ptr Ja).slot p_p), (2, i64.slot p_n), (11, val (.pointer (some ⟨b1, 0, none⟩))), (12, i64.slot s.1)]) (Hi := fun (i : Value) (s : Int × (List Int)) => [box b1 132 (exv i) (), own 3 i64 i s.2]) (R := fun x a w => x = r → Qf a w) e17 v1 (fun a w hst => (hst.sub .k4).keep .h2) ?_ ?_ ?_
    ·clear h e17
     rintro v2 ⟨y2, y3⟩ lr h
     change J0 p_n p_p y2 y3 = some _ at h
     show Run _ _ _ [(0, (ptr Ja).slot p_p), (2, i64.slot p_n), (11, val (.pointer (some ⟨b1, 0, none⟩))), (12, i64.slot y2)] [box b1 132 (exv v2) (), own 3 i64 v2 y3]
     unfold J0 at h
     refine rs <| rs <| rt <| jm ?_
     refine jq (plb (ht rfl) .here .a) ?_
     refine jq (YP (sz := 1) (ht rfl) (.next .here) (by kernel_rfl)) ?_
     refine jq (Q7 (ht rfl) (ht rfl)) ?_
     refine Qd <| Qn (ht rfl) (fun e7 => ?_) (fun e7 => ?_)
     ·replace h := bt e7 h
      refine Qm <| rs <| QJ <| Qh4 (QlA QlF) ?_
      refine rs <| rs <| rt <| jq (plb (ht rfl) .here .a) ?_
      refine jm ?_
      obtain ⟨x1, e8, h⟩ := bs h
      refine jq (J8 (ht rfl) (.next .here) (ht rfl) Qh (Q4 e8).1 (Q4 e8).2.1 (by kernel_rfl)) ?_
      refine jq (PJ.eqv (YW i64 (y2.toNat) (ht rfl) (.next .here) (Q4 e8).2.1 (by kernel_rfl)) (Ul e8 (Q4 e8).2.1)) ?_
      refine jm ?_
      refine jq (ZJ (ht rfl) (ht rfl)) ?_
      refine Qd <| Qn (ht rfl) (fun e9 => ?_) (fun e9 => ?_)
      ·replace h := bt e9 h
       refine rs <| rt <| jq (pa QU) ?_
       refine Qd ?_
       obtain rfl := oi h
       refine Qo fun a w hst => ⟨rfl, fun hr => ?_⟩
       subst hr
       exact hq2 a w (B7 hst rfl (.tmp rfl) () (fun _ _ h => h) (.nil))
      ·replace h := bf e9 h
       refine Qm <| rs <| Qh3 ?_
       refine rs <| rt <| jm ?_
       refine jq (plb (ht rfl) .here .a) ?_
       refine jm ?_
       obtain ⟨x2, e10, h⟩ := bs h
       refine jq (J8 (ht rfl) (.next .here) (ht rfl) Qh (Q4 e10).1 (Q4 e10).2.1 (by kernel_rfl)) ?_
       refine jq (PJ.eqv (YW i64 (y2.toNat) (ht rfl) (.next .here) (Q4 e10).2.1 (by kernel_rfl)) (Ul e10 (Q4 e10).2.1)) ?_
       refine jq (pc tl2 qw) ?_
       refine Qd <| QJ <| Q9 (Γ' := [(0, (ptr Ja).slot p_p), (2, i64.slot p_n), (11, val (.pointer (some ⟨b1, 0, none⟩))), (12, i64.slot y2), (55, fnS 113 [Qt (ptr Ja) p_p, Qt i64 x2])]) (H' := [box b1 132 (exv v2) (), own 3 i64 v2 y3]) .k5 .h2 ?_
       obtain ⟨y8, e16, h⟩ := bs h
       refine WE (σ := (List Int)) (α := Int) (κ := Value) (Es := fun (i : Value) (s : (List Int)) => [box b1 132 (exv i) (), own 3 i64 i s]) (y := (fun (s : (List Int)) (d : Int) => Zc s d)) (sd := fun d => i64.slot d) (Γ1 := fun d => [(11, val (.pointer (some ⟨b1, 0, none⟩))), (13, i64.slot d)]) v2 (ht rfl) (by kernel_rfl) rfl .h2 (fun l rc G' hG hY => (Bx (E := fun (s : (List Int)) => QaK fun (i : Value) => [box b1 132 (exv i) (), own 3 i64 i s]) hY e16)) ?_ ?_ ?_
       ·clear h e16
        rintro lz mz wz bz v3 y4 d s2 h
        show Run _ _ _ ((56, i64.slot d) :: [(0, (ptr Ja).slot p_p), (2, i64.slot p_n), (11, val (.pointer (some ⟨b1, 0, none⟩))), (12, i64.slot y2), (55, fnS 113 [Qt (ptr Ja) p_p, Qt i64 x2])]) [box b1 132 (exv v3) (), own 3 i64 v3 y4]
        refine rt <| ja ?_
        exact Qd <| YV fun a w hst => ⟨rfl, (hst.sub .k2).keep .h2⟩
       ·clear h e16
        rintro lz mz wz bz v3 y4 d s2 h
        change Zc y4 d = some _ at h
        show Run _ _ _ [(11, val (.pointer (some ⟨b1, 0, none⟩))), (13, i64.slot d)] [box b1 132 (exv v3) (), own 3 i64 v3 y4]
        unfold Zc at h
        refine QJ <| rs <| rs <| rt <| jq (plb (ht rfl) .here .a) ?_
        refine jq (YP (sz := 1) (ht rfl) (.next .here) (by kernel_rfl)) ?_
        refine jq (pm Qe) ?_
        refine Qd ?_
        obtain ⟨o, e14, h⟩ := bs h
        refine Qhl (id2 := 3) (Γi := fun (i : Unit) (s : Int) => [(11, val (.pointer (some ⟨b1, 0, none⟩))), (13, i64.slot d), (57, ov v3), (58, i64.slot (y4.length : Int)), (59, i64.slot s)]) (Hi := fun (i : Unit) (s : Int) => [box b1 132 (exv v3) (), own 3 i64 v3 y4]) e14 rfl () (fun a w hst => (hst.sub .k5).keep .h2) ?_ ?_ ?_
        ·clear h e14
         rintro _ y5 lr h
         change YH y4 d y5 = some _ at h
         show Run _ _ _ [(11, val (.pointer (some ⟨b1, 0, none⟩))), (13, i64.slot d), (57, ov v3), (58, i64.slot (y4.length : Int)), (59, i64.slot y5)] [box b1 132 (exv v3) (), own 3 i64 v3 y4]
         unfold YH at h
         refine rs <| rt <| jq (Q7 (ht rfl) (ht rfl)) ?_
         refine Qd <| rs <| Qn (ht rfl) (fun e11 => ?_) (fun e11 => ?_)
         ·replace h := bt e11 h
          refine Qm <| rs <| QJ <| rs <| rt ?_
          obtain ⟨x3, e12, h⟩ := bs h
          refine jq (J8 (ht rfl) (.next .here) (ht rfl) Qh (Q4 e12).1 (Q4 e12).2.1 (by kernel_rfl)) ?_
          refine jq (PJ.eqv (YW i64 (y5.toNat) (ht rfl) (.next .here) (Q4 e12).2.1 (by kernel_rfl)) (Ul e12 (Q4 e12).2.1)) ?_
          refine ja ?_
          refine Qd <| rs <| rt <| jm ?_
          refine jm ?_
          refine jq (ZJ (ht rfl) (ht rfl)) ?_
          refine Qd <| Qn (ht rfl) (fun e13 => ?_) (fun e13 => ?_)
          ·replace h := bt e13 h
           refine BX fun a w hst => ?_
           refine Qac rfl ?_
           obtain rfl := oi h
           exact Qj1 () .k5 .h2 hst
          ·replace h := bf e13 h
           refine Qm <| Qs <| rt <| jq (QW (ht rfl) Qe) ?_
           refine jm ?_
           refine Qd ?_
           obtain rfl := oi h
           exact Qhj () .k5 .h2
         ·replace h := bf e11 h
          obtain rfl := oi h
          exact Qi1 () .k5 .h2
        ·rintro _ y6 ho
         subst ho
         show Run _ _ _ [(11, val (.pointer (some ⟨b1, 0, none⟩))), (13, i64.slot d), (57, ov v3), (58, i64.slot (y4.length : Int)), (59, i64.slot y6)] [box b1 132 (exv v3) (), own 3 i64 v3 y4]
         refine Q9 (Γ' := [(11, val (.pointer (some ⟨b1, 0, none⟩))), (13, i64.slot d)]) (H' := [box b1 132 (exv v3) (), own 3 i64 v3 y4]) .k2 .h2 ?_
         refine rt <| jq (plb (ht rfl) .here .a) ?_
         refine jm ?_
         refine jq (QT (T := 3) (R := i64) (.cons (ht rfl) .nil) rfl (by kernel_rfl) (by kernel_rfl)) ?_
         obtain ⟨e15, h⟩ := QS h
         refine JQ (T := 3) (E := 3) (ht rfl) (.next .here) (JE (ht rfl)) (by kernel_rfl) (by kernel_rfl) e15 rfl fun v4 => ?_
         refine W7 (ht rfl) (ht rfl) (.next .here) (by kernel_rfl) (by kernel_rfl) ?_
         refine Qd <| Qs ?_
         obtain rfl := oi h
         exact YV fun a w hst => ⟨rfl, v4, (hst.sub .nil).keep .h2⟩
        ·rintro _ y7 a w ho hst
         subst ho
         refine Qb0 ((?_ : Run _ _ _ _ _) a w hst)
         clear hst
         show Run _ _ _ [(11, val (.pointer (some ⟨b1, 0, none⟩))), (13, i64.slot d), (57, ov v3), (58, i64.slot (y4.length : Int)), (59, i64.slot y7)] [box b1 132 (exv v3) (), own 3 i64 v3 y4]
         obtain rfl := oi h
         exact YV fun a w hst => ⟨rfl, v3, (hst.sub .nil).keep .h2⟩
       ·rintro v5
        show Run _ _ _ [(0, (ptr Ja).slot p_p), (2, i64.slot p_n), (11, val (.pointer (some ⟨b1, 0, none⟩))), (12, i64.slot y2), (55, fnS 113 [Qt (ptr Ja) p_p, Qt i64 x2])] [box b1 132 (exv v5) (), own 3 i64 v5 y8]
        refine Q9 (Γ' := [(0, (ptr Ja).slot p_p), (2, i64.slot p_n), (11, val (.pointer (some ⟨b1, 0, none⟩))), (12, i64.slot y2)]) (H' := [box b1 132 (exv v5) (), own 3 i64 v5 y8]) .k4 .h2 ?_
        refine Qs <| Qs <| rt <| jm ?_
        refine jq (QW (ht rfl) Qe) ?_
        refine ja ?_
        refine Qd ?_
        obtain rfl := oi h
        exact QZ v5 .k4 .h2
     ·replace h := bf e7 h
      obtain rfl := oi h
      exact Jf v2 .k4 .h2
    ·rintro v6 ⟨y9, y10⟩ ho
     subst ho
     show Run _ _ _ [(0, (ptr Ja).slot p_p), (2, i64.slot p_n), (11, val (.pointer (some ⟨b1, 0, none⟩))), (12, i64.slot y9)] [box b1 132 (exv v6) (), own 3 i64 v6 y10]
     refine Q9 (Γ' := []) (H' := []) (.nil) (.nil) ?_
     refine rs <| rt <| jq (pa QU) ?_
     refine Qd ?_
     obtain rfl := oi h
     exact Qo fun a w hst => B7 hst rfl (.tmp rfl) () (fun _ _ h => h) (.nil)
    ·intro x a w ho hR
     subst ho
     exact hq1 a w (hR (oi h))
  ·rcases Jl (!r1.2) with e4 | e4
   ·replace e5 := bt e4 e5
    refine jN e4 ?_
    refine jN e4 ?_
    refine jq (pk1 e4 QU (oi e5)) ?_
    exact Je .k4 (.nil) (J ())
   ·replace e5 := bf e4 e5
    refine jz (pm (ht rfl)) e4 ?_
    refine jz (ZI (ht rfl)) e4 ?_
    refine jq (pk2 e4 (ht rfl) (oi e5)) ?_
    exact Je .k4 (.nil) (J ())
theorem qu {G : GP} {p_p : (List (BitVec 8)) × (List Qr) × (List Qw) × (List QB)} {b_p : Nat} {v_p1 : Value} {v_p2 : Value} {v_p3 : Value} {hx0 : Hp} {hx1 : Hp} {hx2 : Hp} {hx3 : Hp} {r : (List Qr)} (h : XP p_p = some r) : Ctr Tryz.prog G 41 [val (.pointer (some ⟨b_p, 0, none⟩))] [exE (box b_p 116 (prod (sl u8) (prod (exv v_p1) (prod (exv v_p2) (exv v_p3)))) (p_p.1, (), (), ())) hx0, exE (own 33 Qg v_p1 p_p.2.1) hx1, exE (own 123 Qj v_p2 p_p.2.2.1) hx2, exE (own 130 Ql v_p3 p_p.2.2.2) hx3] (fun (u0 : Value) => ov u0) (fun (u0 : Value) => [exE (box b_p 116 (prod (sl u8) (prod (exv v_p1) (prod (exv v_p2) (exv v_p3)))) (p_p.1, (), (), ())) hx0, exE (own 33 Qg v_p1 p_p.2.1) hx1, exE (own 123 Qj v_p2 p_p.2.2.1) hx2, exE (own 130 Ql v_p3 p_p.2.2.2) hx3, own 33 Qg u0 r]) := by
 unfold XP at h
 refine Qp Tryz.func41 rfl 24 rfl rfl fun m0 w0 b0 => ?_
 show Run _ _ _ [(0, val (.pointer (some ⟨b_p, 0, none⟩)))] _
 refine rs <| rt <| QN (T := 33) Qg rfl fun v1 => ?_
 refine Qd <| rs <| rs <| rt <| jq (PJ.xe (Jh (QM (QM (QM (QM JF))))) (pm (ht rfl))) ?_
 refine jq (PJ.xe (Jh (QM (QM (QM (QM JF))))) (Zl (E := 116) (by kernel_rfl) (ht rfl))) ?_
 refine Qd <| Yi (ht rfl) rfl ?_
 refine Qm <| rs <| rt <| QN (T := 33) Qg rfl fun v2 => ?_
 refine Qd <| rs <| rs <| rt <| jq (PJ.xe (Jh (Jh (QM (QM (QM (QM JF)))))) (pm (ht rfl))) ?_
 refine jq (PJ.xe (Jh (Jh (QM (QM (QM (QM JF)))))) (Qv (ht rfl))) ?_
 refine jq (PJ.xe (Jh (Jh (QM (QM (QM (QM JF)))))) (pfp (off := 1) (ht rfl))) ?_
 refine jq (PJ.xe (Jh (Jh (QM (QM (QM (QM JF)))))) (plb (ht rfl) (.next (.next .here)) (.t .a (.t .s .f)))) ?_
 refine jq (PJ.xe (Jh (Jh (QM (QM (QM (QM JF)))))) (YP (sz := 67) (ht rfl) (.next (.next (.next .here))) (by kernel_rfl))) ?_
 refine jq (PJ.xe (Jh (Jh (QM (QM (QM (QM JF)))))) (pm Qe)) ?_
 refine Qd ?_
 obtain ⟨⟨y3, y4⟩, e6, h⟩ := bs h
 refine Q2 (Γi := fun (i : Value) (s : Int × (List Qr)) => [(3, ov i), (11, ov v_p1), (12, i64.slot (p_p.2.1.length : Int)), (13, i64.slot s.1)]) (Hi := fun (i : Value) (s : Int × (List Qr)) => [own 33 Qg i s.2, exE (box b_p 116 (prod (sl u8) (prod (exv v_p1) (prod (exv v_p2) (exv v_p3)))) (p_p.1, (), (), ())) hx0, exE (own 33 Qg v_p1 p_p.2.1) hx1, exE (own 123 Qj v_p2 p_p.2.2.1) hx2, exE (own 130 Ql v_p3 p_p.2.2.2) hx3]) e6 v2 (fun a w hst => (hst.sub .k4).keep (.cons .here <| .cons (.next .here) <| .cons (.next .here) <| .cons (.next .here) <| .cons (.next .here) <| .nil)) ?_ ?_
 ·clear h e6
  rintro v3 ⟨y1, y2⟩ lr h
  change Yk p_p y1 y2 = some _ at h
  show Run _ _ _ [(3, ov v3), (11, ov v_p1), (12, i64.slot (p_p.2.1.length : Int)), (13, i64.slot y1)] [own 33 Qg v3 y2, exE (box b_p 116 (prod (sl u8) (prod (exv v_p1) (prod (exv v_p2) (exv v_p3)))) (p_p.1, (), (), ())) hx0, exE (own 33 Qg v_p1 p_p.2.1) hx1, exE (own 123 Qj v_p2 p_p.2.2.1) hx2, exE (own 130 Ql v_p3 p_p.2.2.2) hx3]
  unfold Yk at h
  refine rs <| rt <| jq (PJ.xe (Jh (QM (QM (QM (QM JF))))) (Q7 (ht rfl) (ht rfl))) ?_
  refine Qd <| rs <| Qn (ht rfl) (fun e2 => ?_) (fun e2 => ?_)
  ·replace h := bt e2 h
   refine Qm <| rs <| QJ <| rs <| rt ?_
   obtain ⟨x1, e3, h⟩ := bs h
   refine jq (PJ.xe (Jh (QM (QM (QM (QM JF))))) (J8 (ht rfl) (.next (.next .here)) (ht rfl) Qh (Q4 e3).1 (Q4 e3).2.1 (by kernel_rfl))) ?_
   refine jq (PJ.xe (Jh (QM (QM (QM (QM JF))))) (PJ.eqv (YW Qg (y1.toNat) (ht rfl) (.next (.next .here)) (Q4 e3).2.1 (by kernel_rfl)) (Ul e3 (Q4 e3).2.1))) ?_
   refine al (x := ((0, 0, (Vector.replicate 32 (0#8)), (Vector.replicate 32 (0#8))), ([] : List (BitVec 8)))) (R := Qg) (Qk (Qk Qx (Qk Qx (Qk (QA 32 QH) (QA 32 QH)))) Jp) fun b1 => ?_
   refine jk (r' := x1) (ht rfl) (ht rfl) .here .a ?_
   refine Jd (t := 5) .here (.of_lk rfl) ?_
   refine Qd <| rt <| jq (PJ.xe (Jh (QM (QM (QM (QM JF))))) (pm (ht rfl))) ?_
   refine jq (PJ.xe (Jh (QM (QM (QM (QM JF))))) (plt (ht rfl))) ?_
   obtain ⟨r1, e4, h⟩ := bs h
   refine jq (PJ.xe (Jh (QM (QM (QM (QM JF))))) (pc tl1 (Xz e4))) ?_
   refine jq (PJ.xe (Jh (QM (QM (QM (QM JF))))) (QT (T := 33) (R := Qg) (.cons (ht rfl) .nil) rfl (by kernel_rfl) (by kernel_rfl))) ?_
   obtain ⟨e5, h⟩ := QS h
   refine JQ (T := 33) (E := 33) (ht rfl) .here (JE (ht rfl)) (by kernel_rfl) (by kernel_rfl) e5 rfl fun v4 => ?_
   refine jq (PJ.xe (Jh (QM (QM (QM (QM JF))))) (pa (ht rfl))) ?_
   refine Qd <| Qs <| rt <| jq (PJ.xe (Jh (QM (QM (QM (QM JF))))) (QW (ht rfl) Qe)) ?_
   refine jq (PJ.xe (Jh (QM (QM (QM (QM JF))))) (pm (ht rfl))) ?_
   refine Qd ?_
   obtain rfl := oi h
   exact QZ v4 .k4 .h5
  ·replace h := bf e2 h
   obtain rfl := oi h
   exact Jf v3 .k4 .h5
 ·rintro v5
  show Run _ _ _ [(3, ov v5), (11, ov v_p1), (12, i64.slot (p_p.2.1.length : Int)), (13, i64.slot y3)] [own 33 Qg v5 y4, exE (box b_p 116 (prod (sl u8) (prod (exv v_p1) (prod (exv v_p2) (exv v_p3)))) (p_p.1, (), (), ())) hx0, exE (own 33 Qg v_p1 p_p.2.1) hx1, exE (own 123 Qj v_p2 p_p.2.2.1) hx2, exE (own 130 Ql v_p3 p_p.2.2.2) hx3]
  refine Q9 (Γ' := [(3, ov v5)]) (H' := [own 33 Qg v5 y4, exE (box b_p 116 (prod (sl u8) (prod (exv v_p1) (prod (exv v_p2) (exv v_p3)))) (p_p.1, (), (), ())) hx0, exE (own 33 Qg v_p1 p_p.2.1) hx1, exE (own 123 Qj v_p2 p_p.2.2.1) hx2, exE (own 130 Ql v_p3 p_p.2.2.2) hx3]) .k1 .h5 ?_
  refine rs <| rt <| jq (PJ.xe (Jh (QM (QM (QM (QM JF))))) (pm (ht rfl))) ?_
  refine jq (PJ.xe (Jh (QM (QM (QM (QM JF))))) (pa (ht rfl))) ?_
  refine Qd ?_
  obtain rfl := oi h
  exact Qo fun a w hst => QL hst rfl (.tmp rfl) v5 (fun _ _ h => h) (.cons (.next .here) <| .cons (.next .here) <| .cons (.next .here) <| .cons (.next .here) <| .cons .here <| .nil)
theorem Us {G : GP} (hg0 : HG0 G) (hg1 : HG1 G) (hg2 : HG2 G) {r : Bool} (h : YL = some r) : Ctr Tryz.prog G 16 [] [] (fun (_ : Unit) => bl.slot r) (fun (_ : Unit) => []) := by
 unfold YL at h
 refine Qp Tryz.func16 rfl 23 rfl rfl fun m0 w0 b0 => ?_
 show Run _ _ _ [] _
 refine rs <| rt <| jq (pa QU) ?_
 refine Qd <| rs <| rt ?_
 obtain ⟨r1, e1, h⟩ := bs h
 refine jc (Q3) (K4 hg0 hg1 hg2 e1) .nil fun b1 => ?_
 refine ja ?_
 refine Qd <| rs <| rt <| jm ?_
 obtain ⟨r2, e2, h⟩ := bs h
 refine jq (Vo tl1 .here (by kernel_rfl) (Ctr.frozeR (fun _ => (UJ e2)))) ?_
 obtain ⟨r3, e3, h⟩ := bs h
 refine jc tl1 (Qal e3) .nil fun ⟨b2, v1, v2, v3⟩ => ?_
 refine ja ?_
 refine Qd <| rs <| rt <| jm ?_
 refine jm ?_
 obtain ⟨x1, e4, h⟩ := bs h
 refine jq (PJ.eqv (JZ (R := X0) (Qk Qx (Qk Qx (Qk (QA 32 QH) (QA 32 QH)))) (by kernel_rfl) (by kernel_rfl) rfl (.cons Qe .f (by kernel_rfl) (.cons Qe (.t .s .f) (by kernel_rfl) .nil))) (oi e4)) ?_
 obtain ⟨r4, e5, h⟩ := bs h
 refine jc tl2 (K6 hg0 hg1 hg2 e5) (.cons (.next (.next (.next (.next .here)))) <| .nil) fun _ => ?_
 obtain ⟨r5, e6, h⟩ := bs h
 refine jc tl2 (Wp hg0 hg1 hg2 e6) (.cons (.next .here) <| .cons (.next .here) <| .cons (.next .here) <| .cons (.next .here) <| .nil) fun ⟨v4, v5, v6⟩ => ?_
 refine jq (ZJ (ht rfl) Qe) ?_
 refine jm ?_
 obtain ⟨y1, e8, h⟩ := bs h
 refine Jz (ι := Unit) (Γ' := fun _ => [(2, val (.pointer (some ⟨b2, 0, none⟩))), (18, bl.slot y1)]) (H' := fun _ => [box b2 116 (prod (sl u8) (prod (exv v4) (prod (exv v5) (exv v6)))) (r5.1.1, (), (), ()), own 33 Qg v4 r5.1.2.1, own 123 Qj v5 r5.1.2.2.1, own 130 Ql v6 r5.1.2.2.2]) 5 ?_ fun J => ?_
 ·intro _
  clear e8
  show Jc _ _ _ [(2, val (.pointer (some ⟨b2, 0, none⟩))), (18, bl.slot y1)] [box b2 116 (prod (sl u8) (prod (exv v4) (prod (exv v5) (exv v6)))) (r5.1.1, (), (), ()), own 33 Qg v4 r5.1.2.1, own 123 Qj v5 r5.1.2.2.1, own 130 Ql v6 r5.1.2.2.2] _
  refine jm ?_
  obtain ⟨y2, e11, h⟩ := bs h
  refine Jz (ι := Unit) (Γ' := fun _ => [(22, bl.slot y2)]) (H' := fun _ => []) 3 ?_ fun J => ?_
  ·intro _
   clear e11
   show Jc _ _ _ [(22, bl.slot y2)] [] _
   refine ja ?_
   refine Qd ?_
   obtain rfl := oi h
   exact Qo fun a w hst => QL hst rfl (.tmp rfl) () (fun _ _ h => h) (.nil)
  ·rcases Jl (y1) with e10 | e10
   ·replace e11 := bt e10 e11
    refine jz (pm (ht rfl)) e10 ?_
    obtain ⟨r7, e12, e11⟩ := bind_some e11
    refine jz (Yo (Q1 (KN (ht rfl) .here (Zh (.next .here) (Jt (sl u8) r5.1.1 (VE (prod (exv v5) (exv v6)) ((), ()) Xv)) <| Zh (.next (.next .here)) (Jt (sl u8) r5.1.1 (Jt (sl Qg) r5.1.2.1 (VE (exv v6) () Xv))) <| Zh (.next (.next (.next .here))) (Jt (sl u8) r5.1.1 (Jt (sl Qg) r5.1.2.1 (Jt (sl Qj) r5.1.2.2.1 Xv))) <| KJ)) <| Q1 (Yr Qe) <| Q1 (Yr Qe) <| Zj) (by kernel_rfl) (YZ e12) (Rep.flat_slot UU _)) e10 ?_
    refine jq (pk1 e10 (ht rfl) (oi e11)) ?_
    exact Je .k1 (.nil) (J ())
   ·replace e11 := bf e10 e11
    refine jn e10 ?_
    refine jn e10 ?_
    refine jq (pk2 e10 QU (oi e11)) ?_
    exact Je .k1 (.nil) (J ())
 ·rcases Jl (decide (r5.2 = (0 : Int))) with e7 | e7
  ·replace e8 := bt e7 e8
   refine jz (pm (ht rfl)) e7 ?_
   obtain ⟨r6, e9, e8⟩ := bind_some e8
   refine jz (QdI (fun i : Hp × Hp × Hp × Hp => [exE (box b2 116 (prod (sl u8) (prod (exv v4) (prod (exv v5) (exv v6)))) (r5.1.1, (), (), ())) i.1, exE (own 33 Qg v4 r5.1.2.1) i.2.1, exE (own 123 Qj v5 r5.1.2.2.1) i.2.2.1, exE (own 130 Ql v6 r5.1.2.2.2) i.2.2.2]) tl1 .h4 QiU QeX (by kernel_rfl) (fun _ => Ctr.frozeL (qu e9))) e7 ?_
   refine jz (QX (sz := 67) (ht rfl) (by kernel_rfl)) e7 ?_
   refine jz (ZJ (ht rfl) Qe) e7 ?_
   refine jq (pk1 e7 (ht rfl) (oi e8)) ?_
   exact Je .k2 .h4 (J ())
  ·replace e8 := bf e7 e8
   refine jn e7 ?_
   refine jn e7 ?_
   refine jn e7 ?_
   refine jn e7 ?_
   refine jq (pk2 e7 QU (oi e8)) ?_
   exact Je .k2 .h4 (J ())
theorem K7 {G : GP} {p_x : BitVec 64} {p_bytes : Int} {r : (List (BitVec 8))} (h : Zz p_x p_bytes = some r) : Ctr Tryz.prog G 47 [u64.slot p_x, i64.slot p_bytes] [] (fun (u0 : Value) => ov u0) (fun (u0 : Value) => [own 5 u8 u0 r]) := by
 unfold Zz at h
 refine Qp Tryz.func47 rfl 36 rfl rfl fun m0 w0 b0 => ?_
 show Run _ _ _ [(0, u64.slot p_x), (1, i64.slot p_bytes)] _
 refine rs <| rt <| QN (T := 5) u8 rfl fun v1 => ?_
 refine Qd <| rs <| rt <| QN (T := 5) u8 rfl fun v2 => ?_
 refine QN (T := 5) u8 rfl fun v3 => ?_
 refine Qd <| rs <| rs <| rt <| jq (pa Qe) ?_
 refine Qd ?_
 obtain ⟨⟨y4, y5, y6⟩, e3, h⟩ := bs h
 refine Q2 (Γi := fun (i : Value) (s : (BitVec 64) × Int × (List (BitVec 8))) => [(0, u64.slot s.1), (1, i64.slot p_bytes), (5, ov i), (6, ov v3), (7, i64.slot s.2.1)]) (Hi := fun (i : Value) (s : (BitVec 64) × Int × (List (BitVec 8))) => [own 5 u8 v3 ([] : List (BitVec 8)), own 5 u8 i s.2.2]) e3 v2 (fun a w hst => (hst.sub .k5).keep .h2) ?_ ?_
 ·clear h e3
  rintro v4 ⟨y1, y2, y3⟩ lr h
  change ZQ p_bytes y1 y2 y3 = some _ at h
  show Run _ _ _ [(0, u64.slot y1), (1, i64.slot p_bytes), (5, ov v4), (6, ov v3), (7, i64.slot y2)] [own 5 u8 v3 ([] : List (BitVec 8)), own 5 u8 v4 y3]
  unfold ZQ at h
  refine rs <| rs <| rt <| jm ?_
  refine jm ?_
  refine jq (Q7 (ht rfl) (ht rfl)) ?_
  refine Qd <| Qn (ht rfl) (fun e1 => ?_) (fun e1 => ?_)
  ·replace h := bt e1 h
   refine Qm <| rs <| QJ <| rs <| rt <| jm ?_
   refine jm ?_
   refine jq (Qb2 (k := .u64) (b := 64) (ht rfl) (QE (x := 256#64) rfl) (by decide)) ?_
   refine jq (Zi (k := .u8) (b := 8) rfl rfl (by kernel_rfl) (ht rfl)) ?_
   refine jq (QT (T := 5) (R := u8) (.cons (ht rfl) .nil) rfl (by kernel_rfl) (by kernel_rfl)) ?_
   obtain ⟨e2, h⟩ := QS h
   refine JQ (T := 5) (E := 5) (ht rfl) (.next .here) (JE (ht rfl)) (by kernel_rfl) (by kernel_rfl) e2 rfl fun v5 => ?_
   refine ja ?_
   refine Qd <| rt <| jm ?_
   refine jq (Qeo (k := .u64) (b := 64) rfl rfl (ht rfl) (QE (x := 256#64) rfl) (by decide)) ?_
   refine ja ?_
   refine Qd <| Qs <| rt <| jm ?_
   refine jq (QW (ht rfl) Qe) ?_
   refine ja ?_
   refine Qd ?_
   obtain rfl := oi h
   exact QZ v5 .k5 (.cons (.next .here) <| .cons .here <| .nil)
  ·replace h := bf e1 h
   obtain rfl := oi h
   exact Jf v4 .k5 .h2
 ·rintro v6
  show Run _ _ _ [(0, u64.slot y4), (1, i64.slot p_bytes), (5, ov v6), (6, ov v3), (7, i64.slot y5)] [own 5 u8 v3 ([] : List (BitVec 8)), own 5 u8 v6 y6]
  refine Q9 (Γ' := [(1, i64.slot p_bytes), (5, ov v6), (6, ov v3)]) (H' := [own 5 u8 v3 ([] : List (BitVec 8)), own 5 u8 v6 y6]) .k3 .h2 ?_
  refine rs <| rs <| rt <| jm ?_
  refine jq (JS (ht rfl) Qe) ?_
  refine ja ?_
  refine Qd ?_
  obtain ⟨⟨y9, y10⟩, e7, h⟩ := bs h
  refine Q2 (Γi := fun (i : Value) (s : Int × (List (BitVec 8))) => [(5, ov v6), (6, ov i), (8, i64.slot s.1)]) (Hi := fun (i : Value) (s : Int × (List (BitVec 8))) => [own 5 u8 i s.2, own 5 u8 v6 y6]) e7 v3 (fun a w hst => (hst.sub .k3).keep .h2) ?_ ?_
  ·clear h e7
   rintro v7 ⟨y7, y8⟩ lr h
   change ZP y6 y7 y8 = some _ at h
   show Run _ _ _ [(5, ov v6), (6, ov v7), (8, i64.slot y7)] [own 5 u8 v7 y8, own 5 u8 v6 y6]
   unfold ZP at h
   refine rs <| rs <| rt <| jm ?_
   refine jq (XF (ht rfl) Qe) ?_
   refine Qd <| Qn (ht rfl) (fun e4 => ?_) (fun e4 => ?_)
   ·replace h := bt e4 h
    refine Qm <| rs <| QJ <| rt <| jm ?_
    refine jm ?_
    refine jm ?_
    obtain ⟨x1, e5, h⟩ := bs h
    refine jq (J8 (ht rfl) (.next .here) (ht rfl) Qh (Q4 e5).1 (Q4 e5).2.1 (by kernel_rfl)) ?_
    refine jq (PJ.eqv (YW u8 (y7.toNat) (ht rfl) (.next .here) (Q4 e5).2.1 (by kernel_rfl)) (Ul e5 (Q4 e5).2.1)) ?_
    refine jq (QT (T := 5) (R := u8) (.cons (ht rfl) .nil) rfl (by kernel_rfl) (by kernel_rfl)) ?_
    obtain ⟨e6, h⟩ := QS h
    refine JQ (T := 5) (E := 5) (ht rfl) .here (JE (ht rfl)) (by kernel_rfl) (by kernel_rfl) e6 rfl fun v8 => ?_
    refine ja ?_
    refine Qd <| Qs <| rt <| jm ?_
    refine jq (JS (ht rfl) Qe) ?_
    refine ja ?_
    refine Qd ?_
    obtain rfl := oi h
    exact QZ v8 .k3 .h2
   ·replace h := bf e4 h
    obtain rfl := oi h
    exact Jf v7 .k3 .h2
  ·rintro v9
   show Run _ _ _ [(5, ov v6), (6, ov v9), (8, i64.slot y9)] [own 5 u8 v9 y10, own 5 u8 v6 y6]
   refine Q9 (Γ' := [(6, ov v9)]) (H' := [own 5 u8 v9 y10]) .k1 .h1 ?_
   refine rs <| rt <| jm ?_
   refine ja ?_
   refine Qd ?_
   obtain rfl := oi h
   exact Qo fun a w hst => QL hst rfl (.tmp rfl) v9 (fun _ _ h => h) .h1
theorem BL {G : GP} {r : (Vector (BitVec 32) 8)} (h : Vh = some r) : Ctr Tryz.prog G 108 [] [] (fun (_ : Unit) => (vec 8 u32).slot r) (fun (_ : Unit) => []) := by
 unfold Vh at h
 refine Qp Tryz.func108 rfl 2 rfl rfl fun m0 w0 b0 => ?_
 show Run _ _ _ [] _
 refine rs <| rt <| al (x := (Vector.replicate 8 (0#32))) (R := (vec 8 u32)) (QA 8 QH) fun b1 => ?_
 refine Qd <| rs <| rt ?_
 obtain ⟨x1, e1, h⟩ := bs h
 refine jq (PJ.eqv (Ur (z0 := 0#32) (QA 8 QH) (by kernel_rfl) (.cons (QE (x := 1779033703#32) rfl) (.cons (QE (x := 3144134277#32) rfl) (.cons (QE (x := 1013904242#32) rfl) (.cons (QE (x := 2773480762#32) rfl) (.cons (QE (x := 1359893119#32) rfl) (.cons (QE (x := 2600822924#32) rfl) (.cons (QE (x := 528734635#32) rfl) (.cons (QE (x := 1541459225#32) rfl) .nil)))))))) (by kernel_rfl) rfl) (oi e1)) ?_
 refine jk (r' := x1) (ht rfl) (ht rfl) .here .a ?_
 refine Qd ?_
 obtain rfl := oi h
 exact Qo fun a w hst => QL hst rfl (.cell rfl .here (by kernel_rfl)) () (fun _ _ h => h) (.nil)
theorem Bw {G : GP} {p_b : List (BitVec 8)} {r : (List (BitVec 8))} (h : Y9 p_b = some r) : Ctr Tryz.prog G 109 [(sl u8).slot p_b] [] (fun (u0 : Value) => ov u0) (fun (u0 : Value) => [own 5 u8 u0 r]) := by
 unfold Y9 at h
 refine Qp Tryz.func109 rfl 24 rfl rfl fun m0 w0 b0 => ?_
 show Run _ _ _ [(0, (sl u8).slot p_b)] _
 refine rs <| rt <| QN (T := 5) u8 rfl fun v1 => ?_
 refine Qd <| rs <| rt <| QN (T := 5) u8 rfl fun v2 => ?_
 refine Qd <| rs <| rt <| jm ?_
 refine jm ?_
 obtain ⟨e1, h⟩ := QS h
 refine JQ (T := 5) (E := 5) (ht rfl) .here (JE (ht rfl)) (by kernel_rfl) (by kernel_rfl) e1 rfl fun v3 => ?_
 refine ja ?_
 refine Qd <| rs <| rt <| jm ?_
 refine jq (QT (T := 5) (R := u8) (.cons (QE (x := 128#8) rfl) .nil) rfl (by kernel_rfl) (by kernel_rfl)) ?_
 obtain ⟨e2, h⟩ := QS h
 refine JQ (T := 5) (E := 5) (ht rfl) .here (JE (ht rfl)) (by kernel_rfl) (by kernel_rfl) e2 rfl fun v4 => ?_
 refine ja ?_
 refine Qd <| rs ?_
 obtain ⟨y2, e5, h⟩ := bs h
 refine Q2 (Γi := fun (i : Value) (s : (List (BitVec 8))) => [(0, (sl u8).slot p_b), (3, ov i)]) (Hi := fun (i : Value) (s : (List (BitVec 8))) => [own 5 u8 i s]) e5 v4 (fun a w hst => (hst.sub .k2).keep .h1) ?_ ?_
 ·clear h e5
  rintro v5 y1 lr h
  change ZX y1 = some _ at h
  show Run _ _ _ [(0, (sl u8).slot p_b), (3, ov v5)] [own 5 u8 v5 y1]
  unfold ZX at h
  refine rs <| rs <| rt <| jm ?_
  refine jq (YP (sz := 1) (ht rfl) .here (by kernel_rfl)) ?_
  refine jq (qn (ht rfl) Qe (by decide)) ?_
  refine jq (YG (ht rfl) Qe) ?_
  refine Qd <| Qn (ht rfl) (fun e3 => ?_) (fun e3 => ?_)
  ·replace h := bt e3 h
   refine Qm <| QJ <| rt <| jm ?_
   refine jq (QT (T := 5) (R := u8) (.cons (QE (x := 0#8) rfl) .nil) rfl (by kernel_rfl) (by kernel_rfl)) ?_
   obtain ⟨e4, h⟩ := QS h
   refine JQ (T := 5) (E := 5) (ht rfl) .here (JE (ht rfl)) (by kernel_rfl) (by kernel_rfl) e4 rfl fun v6 => ?_
   refine ja ?_
   refine Qd <| Qs ?_
   obtain rfl := oi h
   exact QZ v6 .k2 .h1
  ·replace h := bf e3 h
   obtain rfl := oi h
   exact Jf v5 .k2 .h1
 ·rintro v7
  show Run _ _ _ [(0, (sl u8).slot p_b), (3, ov v7)] [own 5 u8 v7 y2]
  refine Q9 (Γ' := [(0, (sl u8).slot p_b), (3, ov v7)]) (H' := [own 5 u8 v7 y2]) .k2 .h1 ?_
  refine rs <| rt <| jm ?_
  refine jm ?_
  refine jq (QX (sz := 1) (ht rfl) (by kernel_rfl)) ?_
  refine jq (Jo (k := .u64) (b := 64) rfl rfl (by kernel_rfl) (ht rfl) Qh) ?_
  refine jq (Qb7 (k := .u64) (b := 64) rfl rfl (QE (x := 8#64) rfl) (ht rfl)) ?_
  obtain ⟨r1, e6, h⟩ := bs h
  refine jq (pc (hc (ht rfl) <| hc Qe <| Q3) (Ctr.froze (K7 e6))) ?_
  obtain ⟨e7, h⟩ := QS h
  refine JQ (T := 5) (E := 5) (ht rfl) .here (JE (ht rfl)) (by kernel_rfl) (by kernel_rfl) e7 rfl fun v8 => ?_
  refine ja ?_
  refine Qd ?_
  obtain rfl := oi h
  exact Qo fun a w hst => QL hst rfl (.tmp rfl) v8 (fun _ _ h => h) .h1
theorem JT {G : GP} {p_x : BitVec 32} {p_n : BitVec 32} {r : (BitVec 32)} (h : Jr p_x p_n = some r) : Ctr Tryz.prog G 151 [u32.slot p_x, u32.slot p_n] [] (fun (_ : Unit) => u32.slot r) (fun (_ : Unit) => []) := by
 unfold Jr at h
 refine Qp Tryz.func151 rfl 13 rfl rfl fun m0 w0 b0 => ?_
 show Run _ _ _ [(0, u32.slot p_x), (1, u32.slot p_n)] _
 refine rs <| rt <| jq (pa (QE (x := 0#32) rfl)) ?_
 refine Qd <| rs <| rt <| jm ?_
 refine jm ?_
 refine jq (Xe (k := .u32) (b := 32) rfl (ht rfl) (ht rfl) JY (Int.natCast_nonneg _)) ?_
 refine jm ?_
 refine jm ?_
 refine jq (Qb3 (k := .u32) (b := 32) rfl rfl (QE (x := 32#32) rfl) (ht rfl)) ?_
 refine jq (QaB (k := .u32) (b := 32) rfl rfl (ht rfl) (ht rfl) JY (Int.natCast_nonneg _)) ?_
 refine jq (Bc (k := .u32) (b := 32) rfl rfl (ht rfl) (ht rfl)) ?_
 obtain ⟨x1, e1, h⟩ := bs h
 refine jq (PJ.eqv (pa (ht rfl)) (oi e1)) ?_
 refine Qd ?_
 obtain rfl := oi h
 exact Qo fun a w hst => QL hst rfl (.tmp rfl) () (fun _ _ h => h) (.nil)
theorem BB {G : GP} {p_b : List (BitVec 8)} {r : (BitVec 64)} (h : Xs p_b = some r) : Ctr Tryz.prog G 154 [(sl u8).slot p_b] [] (fun (_ : Unit) => u64.slot r) (fun (_ : Unit) => []) := by
 unfold Xs at h
 refine Qp Tryz.func154 rfl 20 rfl rfl fun m0 w0 b0 => ?_
 show Run _ _ _ [(0, (sl u8).slot p_b)] _
 refine rs <| rt <| jq (pa (QE (x := 0#64) rfl)) ?_
 refine Qd <| rs <| rt <| jq (pa (QE (x := 0#64) rfl)) ?_
 refine Qd <| rs <| rs <| rt <| jq (pa Qe) ?_
 refine Qd ?_
 obtain ⟨⟨y3, y4⟩, e3, h⟩ := bs h
 refine Q2 (Γi := fun (i : Unit) (s : (BitVec 64) × Int) => [(0, (sl u8).slot p_b), (3, u64.slot s.1), (4, i64.slot s.2)]) (Hi := fun (i : Unit) (s : (BitVec 64) × Int) => []) e3 () (fun a w hst => (hst.sub .k3).keep (.nil)) ?_ ?_
 ·clear h e3
  rintro _ ⟨y1, y2⟩ lr h
  change Z6 p_b y1 y2 = some _ at h
  show Run _ _ _ [(0, (sl u8).slot p_b), (3, u64.slot y1), (4, i64.slot y2)] []
  unfold Z6 at h
  refine rs <| rs <| rt <| jm ?_
  refine jm ?_
  refine jq (QX (sz := 1) (ht rfl) (by kernel_rfl)) ?_
  refine jq (Q7 (ht rfl) (ht rfl)) ?_
  refine Qd <| Qn (ht rfl) (fun e1 => ?_) (fun e1 => ?_)
  ·replace h := bt e1 h
   refine Qm <| rs <| QJ <| rt <| jm ?_
   refine jq (Qb7 (k := .u64) (b := 64) rfl rfl (ht rfl) (QE (x := 256#64) rfl)) ?_
   refine jm ?_
   refine jm ?_
   obtain ⟨x1, e2, h⟩ := bs h
   refine jq (pix (ht rfl) (ht rfl) Qh e2) ?_
   refine jl ?_
   refine jq (Zi (k := .u64) (b := 64) rfl rfl (by kernel_rfl) (ht rfl)) ?_
   refine jq (Yx (k := .u64) (b := 64) rfl rfl (ht rfl) (ht rfl)) ?_
   refine ja ?_
   refine Qd <| Qs <| rt <| jm ?_
   refine jq (QW (ht rfl) Qe) ?_
   refine ja ?_
   refine Qd ?_
   obtain rfl := oi h
   exact QZ () .k3 (.nil)
  ·replace h := bf e1 h
   obtain rfl := oi h
   exact Jf () .k3 (.nil)
 ·rintro _
  show Run _ _ _ [(0, (sl u8).slot p_b), (3, u64.slot y3), (4, i64.slot y4)] []
  refine Q9 (Γ' := [(3, u64.slot y3)]) (H' := []) .k1 (.nil) ?_
  refine rs <| rt <| jm ?_
  refine ja ?_
  refine Qd ?_
  obtain rfl := oi h
  exact Qo fun a w hst => QL hst rfl (.tmp rfl) () (fun _ _ h => h) (.nil)
theorem BU {G : GP} {p_b : List (BitVec 8)} {r : (Vector (BitVec 32) 64)} (h : Xo p_b = some r) : Ctr Tryz.prog G 149 [(sl u8).slot p_b] [] (fun (_ : Unit) => (vec 64 u32).slot r) (fun (_ : Unit) => []) := by
 unfold Xo at h
 refine Qp Tryz.func149 rfl 65 rfl rfl fun m0 w0 b0 => ?_
 show Run _ _ _ [(0, (sl u8).slot p_b)] _
 refine rs <| rt <| al (x := (Vector.replicate 64 (0#32))) (R := (vec 64 u32)) (QA 64 QH) fun b1 => ?_
 refine Qd <| rs <| rt <| al (x := (Vector.replicate 64 (0#32))) (R := (vec 64 u32)) (QA 64 QH) fun b2 => ?_
 refine Qd <| rs <| rs <| rt <| jq (pa Qe) ?_
 refine Qd ?_
 obtain ⟨⟨y3, y4⟩, e6, h⟩ := bs h
 refine Q2 (Γi := fun (i : Unit) (s : Int × (Vector (BitVec 32) 64)) => [(0, (sl u8).slot p_b), (2, val (.pointer (some ⟨b1, 0, none⟩))), (3, val (.pointer (some ⟨b2, 0, none⟩))), (4, i64.slot s.1)]) (Hi := fun (i : Unit) (s : Int × (Vector (BitVec 32) 64)) => [box b2 217 (vec 64 u32) s.2, box b1 217 (vec 64 u32) (Vector.replicate 64 (0#32))]) e6 () (fun a w hst => (hst.sub .k4).keep .h2) ?_ ?_
 ·clear h e6
  rintro _ ⟨y1, y2⟩ lr h
  change Z8 p_b y1 y2 = some _ at h
  show Run _ _ _ [(0, (sl u8).slot p_b), (2, val (.pointer (some ⟨b1, 0, none⟩))), (3, val (.pointer (some ⟨b2, 0, none⟩))), (4, i64.slot y1)] [box b2 217 (vec 64 u32) y2, box b1 217 (vec 64 u32) (Vector.replicate 64 (0#32))]
  unfold Z8 at h
  refine rs <| rs <| rt <| jm ?_
  refine jq (Q7 (ht rfl) Qe) ?_
  refine Qd <| Qn (ht rfl) (fun e1 => ?_) (fun e1 => ?_)
  ·replace h := bt e1 h
   refine Qm <| rs <| QJ <| rt <| jm ?_
   refine jm ?_
   refine jm ?_
   refine jq (XJ Qe (ht rfl)) ?_
   refine jm ?_
   refine jq (XJ Qe (ht rfl)) ?_
   refine jq (QW (ht rfl) Qe) ?_
   obtain ⟨x1, e2, h⟩ := bs h
   refine jq (ZH (ht rfl) (.yes (ht rfl) Qh) (.yes (ht rfl) Qh) e2 (by kernel_rfl)) ?_
   obtain ⟨r1, e3, h⟩ := bs h
   refine jq (pc tl1 (BB e3)) ?_
   refine jq (Zi (k := .u32) (b := 32) rfl rfl (by kernel_rfl) (ht rfl)) ?_
   obtain ⟨e4, h⟩ := QS h
   refine jq (Qq (n := 64) (sz := 1) (ht rfl) (ht rfl) Qh e4.1 e4.2 (by kernel_rfl)) ?_
   obtain ⟨x2, e5, h⟩ := bs h
   refine ZF (r' := x2) (ht rfl) (ht rfl) .here (.t .a (Path.atI 64 u32 y1.toNat (Vl e4))) (by kernel_rfl) (oi e5) ?_
   refine Qd <| Qs <| rt <| jm ?_
   refine jq (QW (ht rfl) Qe) ?_
   refine ja ?_
   refine Qd ?_
   obtain rfl := oi h
   exact QZ () .k4 .h2
  ·replace h := bf e1 h
   obtain rfl := oi h
   exact Jf () .k4 .h2
 ·rintro _
  show Run _ _ _ [(0, (sl u8).slot p_b), (2, val (.pointer (some ⟨b1, 0, none⟩))), (3, val (.pointer (some ⟨b2, 0, none⟩))), (4, i64.slot y3)] [box b2 217 (vec 64 u32) y4, box b1 217 (vec 64 u32) (Vector.replicate 64 (0#32))]
  refine Q9 (Γ' := [(2, val (.pointer (some ⟨b1, 0, none⟩))), (3, val (.pointer (some ⟨b2, 0, none⟩)))]) (H' := [box b2 217 (vec 64 u32) y4, box b1 217 (vec 64 u32) (Vector.replicate 64 (0#32))]) .k2 .h2 ?_
  refine rs <| rs <| rt <| jq (pa Qe) ?_
  refine Qd ?_
  obtain ⟨⟨y7, y8⟩, e18, h⟩ := bs h
  refine Q2 (Γi := fun (i : Unit) (s : Int × (Vector (BitVec 32) 64)) => [(2, val (.pointer (some ⟨b1, 0, none⟩))), (3, val (.pointer (some ⟨b2, 0, none⟩))), (5, i64.slot s.1)]) (Hi := fun (i : Unit) (s : Int × (Vector (BitVec 32) 64)) => [box b2 217 (vec 64 u32) s.2, box b1 217 (vec 64 u32) (Vector.replicate 64 (0#32))]) e18 () (fun a w hst => (hst.sub .k3).keep .h2) ?_ ?_
  ·clear h e18
   rintro _ ⟨y5, y6⟩ lr h
   change Z5 y5 y6 = some _ at h
   show Run _ _ _ [(2, val (.pointer (some ⟨b1, 0, none⟩))), (3, val (.pointer (some ⟨b2, 0, none⟩))), (5, i64.slot y5)] [box b2 217 (vec 64 u32) y6, box b1 217 (vec 64 u32) (Vector.replicate 64 (0#32))]
   unfold Z5 at h
   refine rs <| rs <| rt <| jm ?_
   refine jq (Q7 (ht rfl) Qe) ?_
   refine Qd <| Qn (ht rfl) (fun e7 => ?_) (fun e7 => ?_)
   ·replace h := bt e7 h
    refine Qm <| rs <| QJ <| rs <| rt <| jm ?_
    refine jq (JS (ht rfl) Qe) ?_
    obtain ⟨x3, e8, h⟩ := bs h
    refine jq (Qq (n := 64) (sz := 1) (ht rfl) (ht rfl) Qh (QF e8).1 (ZT e8) (by kernel_rfl)) ?_
    refine jq (PJ.eqv (plb (ht rfl) .here (.t .a (Path.atI 64 u32 ((w64 (y5 - (15 : Int))).toNat) (QF e8).2.1))) (ZW e8 (QF e8).2.1)) ?_
    refine ja ?_
    refine Qd <| rs <| rt <| jm ?_
    refine jq (JS (ht rfl) Qe) ?_
    obtain ⟨x4, e9, h⟩ := bs h
    refine jq (Qq (n := 64) (sz := 1) (ht rfl) (ht rfl) Qh (QF e9).1 (ZT e9) (by kernel_rfl)) ?_
    refine jq (PJ.eqv (plb (ht rfl) .here (.t .a (Path.atI 64 u32 ((w64 (y5 - (2 : Int))).toNat) (QF e9).2.1))) (ZW e9 (QF e9).2.1)) ?_
    refine ja ?_
    refine Qd ?_
    obtain ⟨x5, e10, h⟩ := bs h
    obtain ⟨r2, e11, h⟩ := bs h
    obtain ⟨r3, e12, h⟩ := bs h
    obtain ⟨x6, e13, h⟩ := bs h
    obtain ⟨r4, e14, h⟩ := bs h
    obtain ⟨r5, e15, h⟩ := bs h
    refine rd (n := 28) (.m rfl <| .m rfl <| .p (JS (ht rfl) Qe) <| .p (Qq (n := 64) (sz := 1) (ht rfl) (ht rfl) Qh (QF e10).1 (ZT e10) (by kernel_rfl)) <| .p (PJ.eqv (plb (ht rfl) .here (.t .a (Path.atI 64 u32 ((w64 (y5 - (16 : Int))).toNat) (QF e10).2.1))) (ZW e10 (QF e10).2.1)) <| .m rfl <| .p (pc (hc (ht rfl) <| hc (QE (x := 7#32) rfl) <| Q3) (JT e11)) <| .m rfl <| .p (pc (hc (ht rfl) <| hc (QE (x := 18#32) rfl) <| Q3) (JT e12)) <| .p (Xu (k := .u32) (b := 32) rfl rfl (ht rfl) (ht rfl)) <| .m rfl <| .p (Qeo (k := .u32) (b := 32) rfl rfl (ht rfl) (QE (x := 8#32) rfl) (by decide)) <| .p (Xu (k := .u32) (b := 32) rfl rfl (ht rfl) (ht rfl)) <| .p (Yx (k := .u32) (b := 32) rfl rfl (ht rfl) (ht rfl)) <| .m rfl <| .p (JS (ht rfl) Qe) <| .p (Qq (n := 64) (sz := 1) (ht rfl) (ht rfl) Qh (QF e13).1 (ZT e13) (by kernel_rfl)) <| .p (PJ.eqv (plb (ht rfl) .here (.t .a (Path.atI 64 u32 ((w64 (y5 - (7 : Int))).toNat) (QF e13).2.1))) (ZW e13 (QF e13).2.1)) <| .p (Yx (k := .u32) (b := 32) rfl rfl (ht rfl) (ht rfl)) <| .m rfl <| .p (pc (hc (ht rfl) <| hc (QE (x := 17#32) rfl) <| Q3) (JT e14)) <| .m rfl <| .p (pc (hc (ht rfl) <| hc (QE (x := 19#32) rfl) <| Q3) (JT e15)) <| .p (Xu (k := .u32) (b := 32) rfl rfl (ht rfl) (ht rfl)) <| .m rfl <| .p (Qeo (k := .u32) (b := 32) rfl rfl (ht rfl) (QE (x := 1024#32) rfl) (by decide)) <| .p (Xu (k := .u32) (b := 32) rfl rfl (ht rfl) (ht rfl)) <| .p (Yx (k := .u32) (b := 32) rfl rfl (ht rfl) (ht rfl)) <| .nil) (Je (Γ' := [(2, val (.pointer (some ⟨b1, 0, none⟩))), (3, val (.pointer (some ⟨b2, 0, none⟩))), (5, i64.slot y5), (35, i64.slot y5), (62, u32.slot (((x5 + ((r2 ^^^ r3) ^^^ (x3 / (8#32)))) + x6) + ((r4 ^^^ r5) ^^^ (x4 / (1024#32)))))]) (H' := [box b2 217 (vec 64 u32) y6, box b1 217 (vec 64 u32) (Vector.replicate 64 (0#32))]) .k5 .h2 ?_)
    obtain ⟨e16, h⟩ := QS h
    refine jq (Qq (n := 64) (sz := 1) (ht rfl) (ht rfl) Qh e16.1 e16.2 (by kernel_rfl)) ?_
    obtain ⟨x7, e17, h⟩ := bs h
    refine ZF (r' := x7) (ht rfl) (ht rfl) .here (.t .a (Path.atI 64 u32 y5.toNat (Vl e16))) (by kernel_rfl) (oi e17) ?_
    refine Qd <| Qs <| rt <| jm ?_
    refine jq (QW (ht rfl) Qe) ?_
    refine ja ?_
    refine Qd ?_
    obtain rfl := oi h
    exact QZ () .k3 .h2
   ·replace h := bf e7 h
    obtain rfl := oi h
    exact Jf () .k3 .h2
  ·rintro _
   show Run _ _ _ [(2, val (.pointer (some ⟨b1, 0, none⟩))), (3, val (.pointer (some ⟨b2, 0, none⟩))), (5, i64.slot y7)] [box b2 217 (vec 64 u32) y8, box b1 217 (vec 64 u32) (Vector.replicate 64 (0#32))]
   refine Q9 (Γ' := [(2, val (.pointer (some ⟨b1, 0, none⟩))), (3, val (.pointer (some ⟨b2, 0, none⟩)))]) (H' := [box b2 217 (vec 64 u32) y8, box b1 217 (vec 64 u32) (Vector.replicate 64 (0#32))]) .k2 .h2 ?_
   refine rs <| rt <| jq (plb (ht rfl) .here .a) ?_
   refine jk (r' := y8) (ht rfl) (ht rfl) (.next .here) .a ?_
   refine Qd ?_
   obtain rfl := oi h
   exact Qo fun a w hst => QL hst rfl (.cell rfl .here (by kernel_rfl)) () (fun _ _ h => h) (.nil)
theorem Qa7 {G : GP} {r : (Vector (BitVec 32) 64)} (h : KZ = some r) : Ctr Tryz.prog G 150 [] [] (fun (_ : Unit) => (vec 64 u32).slot r) (fun (_ : Unit) => []) := by
 unfold KZ at h
 refine Qp Tryz.func150 rfl 2 rfl rfl fun m0 w0 b0 => ?_
 show Run _ _ _ [] _
 refine rs <| rt <| al (x := (Vector.replicate 64 (0#32))) (R := (vec 64 u32)) (QA 64 QH) fun b1 => ?_
 refine Qd <| rs <| rt ?_
 obtain ⟨x1, e1, h⟩ := bs h
 refine jq (PJ.eqv (Ur (z0 := 0#32) (QA 64 QH) (by kernel_rfl) (.cons (QE (x := 1116352408#32) rfl) (.cons (QE (x := 1899447441#32) rfl) (.cons (QE (x := 3049323471#32) rfl) (.cons (QE (x := 3921009573#32) rfl) (.cons (QE (x := 961987163#32) rfl) (.cons (QE (x := 1508970993#32) rfl) (.cons (QE (x := 2453635748#32) rfl) (.cons (QE (x := 2870763221#32) rfl) (.cons (QE (x := 3624381080#32) rfl) (.cons (QE (x := 310598401#32) rfl) (.cons (QE (x := 607225278#32) rfl) (.cons (QE (x := 1426881987#32) rfl) (.cons (QE (x := 1925078388#32) rfl) (.cons (QE (x := 2162078206#32) rfl) (.cons (QE (x := 2614888103#32) rfl) (.cons (QE (x := 3248222580#32) rfl) (.cons (QE (x := 3835390401#32) rfl) (.cons (QE (x := 4022224774#32) rfl) (.cons (QE (x := 264347078#32) rfl) (.cons (QE (x := 604807628#32) rfl) (.cons (QE (x := 770255983#32) rfl) (.cons (QE (x := 1249150122#32) rfl) (.cons (QE (x := 1555081692#32) rfl) (.cons (QE (x := 1996064986#32) rfl) (.cons (QE (x := 2554220882#32) rfl) (.cons (QE (x := 2821834349#32) rfl) (.cons (QE (x := 2952996808#32) rfl) (.cons (QE (x := 3210313671#32) rfl) (.cons (QE (x := 3336571891#32) rfl) (.cons (QE (x := 3584528711#32) rfl) (.cons (QE (x := 113926993#32) rfl) (.cons (QE (x := 338241895#32) rfl) (.cons (QE (x := 666307205#32) rfl) (.cons (QE (x := 773529912#32) rfl) (.cons (QE (x := 1294757372#32) rfl) (.cons (QE (x := 1396182291#32) rfl) (.cons (QE (x := 1695183700#32) rfl) (.cons (QE (x := 1986661051#32) rfl) (.cons (QE (x := 2177026350#32) rfl) (.cons (QE (x := 2456956037#32) rfl) (.cons (QE (x := 2730485921#32) rfl) (.cons (QE (x := 2820302411#32) rfl) (.cons (QE (x := 3259730800#32) rfl) (.cons (QE (x := 3345764771#32) rfl) (.cons (QE (x := 3516065817#32) rfl) (.cons (QE (x := 3600352804#32) rfl) (.cons (QE (x := 4094571909#32) rfl) (.cons (QE (x := 275423344#32) rfl) (.cons (QE (x := 430227734#32) rfl) (.cons (QE (x := 506948616#32) rfl) (.cons (QE (x := 659060556#32) rfl) (.cons (QE (x := 883997877#32) rfl) (.cons (QE (x := 958139571#32) rfl) (.cons (QE (x := 1322822218#32) rfl) (.cons (QE (x := 1537002063#32) rfl) (.cons (QE (x := 1747873779#32) rfl) (.cons (QE (x := 1955562222#32) rfl) (.cons (QE (x := 2024104815#32) rfl) (.cons (QE (x := 2227730452#32) rfl) (.cons (QE (x := 2361852424#32) rfl) (.cons (QE (x := 2428436474#32) rfl) (.cons (QE (x := 2756734187#32) rfl) (.cons (QE (x := 3204031479#32) rfl) (.cons (QE (x := 3329325298#32) rfl) .nil)))))))))))))))))))))))))))))))))))))))))))))))))))))))))))))))) (by kernel_rfl) rfl) (oi e1)) ?_
 refine jk (r' := x1) (ht rfl) (ht rfl) .here .a ?_
 refine Qd ?_
 obtain rfl := oi h
 exact Qo fun a w hst => QL hst rfl (.cell rfl .here (by kernel_rfl)) () (fun _ _ h => h) (.nil)
theorem qo {G : GP} {p_h : Vector (BitVec 32) 8} {p_block : List (BitVec 8)} {r : (Vector (BitVec 32) 8)} (h : XI p_h p_block = some r) : Ctr Tryz.prog G 110 [(vec 8 u32).slot p_h, (sl u8).slot p_block] [] (fun (_ : Unit) => (vec 8 u32).slot r) (fun (_ : Unit) => []) := by
 unfold XI at h
 refine Qp Tryz.func110 rfl 121 rfl rfl fun m0 w0 b0 => ?_
 show Run _ _ _ [(0, (vec 8 u32).slot p_h), (1, (sl u8).slot p_block)] _
 refine rs <| rt <| Bq (ht rfl) rfl fun b1 => ?_
 refine al (x := (Vector.replicate 8 (0#32))) (R := (vec 8 u32)) (QA 8 QH) fun b2 => ?_
 refine Qd <| rs <| rt <| jm ?_
 obtain ⟨r1, e1, h⟩ := bs h
 refine jq (pc tl1 (BU e1)) ?_
 refine al (x := (Vector.replicate 64 (0#32))) (R := (vec 64 u32)) (QA 64 QH) fun b3 => ?_
 refine jk (r' := r1) (ht rfl) (ht rfl) .here .a ?_
 refine Jd (t := 5) .here (.of_lk rfl) ?_
 refine Qd <| rs <| rt ?_
 obtain ⟨r2, e2, h⟩ := bs h
 refine jq (pc (Q3) (Qa7 e2)) ?_
 refine al (x := (Vector.replicate 64 (0#32))) (R := (vec 64 u32)) (QA 64 QH) fun b4 => ?_
 refine jk (r' := r2) (ht rfl) (ht rfl) .here .a ?_
 refine Jd (t := 6) .here (.of_lk rfl) ?_
 refine Qd <| rs <| rt <| jq (plb (ht rfl) (.next .here) .a) ?_
 refine al (x := (Vector.replicate 8 (0#32))) (R := (vec 8 u32)) (QA 8 QH) fun b5 => ?_
 refine jk (r' := p_h) (ht rfl) (ht rfl) .here .a ?_
 refine Qd <| rs <| rs <| rt <| jq (pa Qe) ?_
 refine Qd ?_
 obtain ⟨⟨y3, y4⟩, e16, h⟩ := bs h
 refine Q2 (Γi := fun (i : Unit) (s : Int × (Vector (BitVec 32) 8)) => [(2, val (.pointer (some ⟨b1, 0, none⟩))), (4, val (.pointer (some ⟨b2, 0, none⟩))), (5, Qt (vec 64 u32) r1), (6, Qt (vec 64 u32) r2), (7, val (.pointer (some ⟨b5, 0, none⟩))), (8, i64.slot s.1)]) (Hi := fun (i : Unit) (s : Int × (Vector (BitVec 32) 8)) => [box b5 181 (vec 8 u32) s.2, box b2 181 (vec 8 u32) (Vector.replicate 8 (0#32)), box b1 181 (vec 8 u32) p_h]) e16 () (fun a w hst => (hst.sub .k6).keep .h3) ?_ ?_
 ·clear h e16
  rintro _ ⟨y1, y2⟩ lr h
  change Yq r2 r1 y1 y2 = some _ at h
  show Run _ _ _ [(2, val (.pointer (some ⟨b1, 0, none⟩))), (4, val (.pointer (some ⟨b2, 0, none⟩))), (5, Qt (vec 64 u32) r1), (6, Qt (vec 64 u32) r2), (7, val (.pointer (some ⟨b5, 0, none⟩))), (8, i64.slot y1)] [box b5 181 (vec 8 u32) y2, box b2 181 (vec 8 u32) (Vector.replicate 8 (0#32)), box b1 181 (vec 8 u32) p_h]
  unfold Yq at h
  refine rs <| rs <| rt <| jm ?_
  refine jq (Q7 (ht rfl) Qe) ?_
  refine Qd <| Qn (ht rfl) (fun e3 => ?_) (fun e3 => ?_)
  ·replace h := bt e3 h
   refine Qm <| rs <| QJ <| rs <| rt <| jq (Qq (n := 8) (sz := 1) (ht rfl) Qe Qh (by decide) (by decide) (by kernel_rfl)) ?_
   refine jq (plb (ht rfl) .here (.t .a (Path.at 8 u32 4 (by decide)))) ?_
   refine jq (Qq (n := 8) (sz := 1) (ht rfl) Qe Qh (by decide) (by decide) (by kernel_rfl)) ?_
   refine jq (plb (ht rfl) .here (.t .a (Path.at 8 u32 5 (by decide)))) ?_
   refine jq (Uk (k := .u32) (b := 32) rfl rfl (ht rfl) (ht rfl)) ?_
   refine jq (Qq (n := 8) (sz := 1) (ht rfl) Qe Qh (by decide) (by decide) (by kernel_rfl)) ?_
   refine jq (plb (ht rfl) .here (.t .a (Path.at 8 u32 4 (by decide)))) ?_
   refine jq (Qb3 (k := .u32) (b := 32) rfl rfl (QE (x := 4294967295#32) rfl) (ht rfl)) ?_
   refine jq (Qq (n := 8) (sz := 1) (ht rfl) Qe Qh (by decide) (by decide) (by kernel_rfl)) ?_
   refine jq (plb (ht rfl) .here (.t .a (Path.at 8 u32 6 (by decide)))) ?_
   refine jq (Uk (k := .u32) (b := 32) rfl rfl (ht rfl) (ht rfl)) ?_
   refine jq (Bc (k := .u32) (b := 32) rfl rfl (ht rfl) (ht rfl)) ?_
   obtain ⟨x1, e4, h⟩ := bs h
   refine jq (PJ.eqv (pa (ht rfl)) (oi e4)) ?_
   refine Qd <| rs <| rt <| jq (Qq (n := 8) (sz := 1) (ht rfl) Qe Qh (by decide) (by decide) (by kernel_rfl)) ?_
   refine jq (plb (ht rfl) .here (.t .a (Path.at 8 u32 0 (by decide)))) ?_
   refine jq (Qq (n := 8) (sz := 1) (ht rfl) Qe Qh (by decide) (by decide) (by kernel_rfl)) ?_
   refine jq (plb (ht rfl) .here (.t .a (Path.at 8 u32 1 (by decide)))) ?_
   refine jq (Uk (k := .u32) (b := 32) rfl rfl (ht rfl) (ht rfl)) ?_
   refine jq (Qq (n := 8) (sz := 1) (ht rfl) Qe Qh (by decide) (by decide) (by kernel_rfl)) ?_
   refine jq (plb (ht rfl) .here (.t .a (Path.at 8 u32 0 (by decide)))) ?_
   refine jq (Qq (n := 8) (sz := 1) (ht rfl) Qe Qh (by decide) (by decide) (by kernel_rfl)) ?_
   refine jq (plb (ht rfl) .here (.t .a (Path.at 8 u32 2 (by decide)))) ?_
   refine jq (Uk (k := .u32) (b := 32) rfl rfl (ht rfl) (ht rfl)) ?_
   refine jq (Bc (k := .u32) (b := 32) rfl rfl (ht rfl) (ht rfl)) ?_
   refine jq (Qq (n := 8) (sz := 1) (ht rfl) Qe Qh (by decide) (by decide) (by kernel_rfl)) ?_
   refine jq (plb (ht rfl) .here (.t .a (Path.at 8 u32 1 (by decide)))) ?_
   refine jq (Qq (n := 8) (sz := 1) (ht rfl) Qe Qh (by decide) (by decide) (by kernel_rfl)) ?_
   refine jq (plb (ht rfl) .here (.t .a (Path.at 8 u32 2 (by decide)))) ?_
   refine jq (Uk (k := .u32) (b := 32) rfl rfl (ht rfl) (ht rfl)) ?_
   refine jq (Bc (k := .u32) (b := 32) rfl rfl (ht rfl) (ht rfl)) ?_
   obtain ⟨x2, e5, h⟩ := bs h
   refine jq (PJ.eqv (pa (ht rfl)) (oi e5)) ?_
   refine Qd <| rs ?_
   obtain ⟨r3, e6, h⟩ := bs h
   obtain ⟨r4, e7, h⟩ := bs h
   obtain ⟨r5, e8, h⟩ := bs h
   obtain ⟨x3, e9, h⟩ := bs h
   obtain ⟨x4, e10, h⟩ := bs h
   refine rd (n := 23) (.p (Qq (n := 8) (sz := 1) (ht rfl) Qe Qh (by decide) (by decide) (by kernel_rfl)) <| .p (plb (ht rfl) .here (.t .a (Path.at 8 u32 7 (by decide)))) <| .p (Qq (n := 8) (sz := 1) (ht rfl) Qe Qh (by decide) (by decide) (by kernel_rfl)) <| .p (plb (ht rfl) .here (.t .a (Path.at 8 u32 4 (by decide)))) <| .p (pc (hc (ht rfl) <| hc (QE (x := 6#32) rfl) <| Q3) (JT e6)) <| .p (Qq (n := 8) (sz := 1) (ht rfl) Qe Qh (by decide) (by decide) (by kernel_rfl)) <| .p (plb (ht rfl) .here (.t .a (Path.at 8 u32 4 (by decide)))) <| .p (pc (hc (ht rfl) <| hc (QE (x := 11#32) rfl) <| Q3) (JT e7)) <| .p (Xu (k := .u32) (b := 32) rfl rfl (ht rfl) (ht rfl)) <| .p (Qq (n := 8) (sz := 1) (ht rfl) Qe Qh (by decide) (by decide) (by kernel_rfl)) <| .p (plb (ht rfl) .here (.t .a (Path.at 8 u32 4 (by decide)))) <| .p (pc (hc (ht rfl) <| hc (QE (x := 25#32) rfl) <| Q3) (JT e8)) <| .p (Xu (k := .u32) (b := 32) rfl rfl (ht rfl) (ht rfl)) <| .p (Yx (k := .u32) (b := 32) rfl rfl (ht rfl) (ht rfl)) <| .m rfl <| .p (Yx (k := .u32) (b := 32) rfl rfl (ht rfl) (ht rfl)) <| .m rfl <| .p (W3 (ht rfl) (ht rfl) Qh e9 (by kernel_rfl)) <| .p (plt (ht rfl)) <| .p (Yx (k := .u32) (b := 32) rfl rfl (ht rfl) (ht rfl)) <| .m rfl <| .p (W3 (ht rfl) (ht rfl) Qh e10 (by kernel_rfl)) <| .p (plt (ht rfl)) <| .nil) (Je (Γ' := [(2, val (.pointer (some ⟨b1, 0, none⟩))), (4, val (.pointer (some ⟨b2, 0, none⟩))), (5, Qt (vec 64 u32) r1), (6, Qt (vec 64 u32) r2), (7, val (.pointer (some ⟨b5, 0, none⟩))), (8, i64.slot y1), (10, u32.slot x2), (70, u32.slot ((((y2[7]) + ((r3 ^^^ r4) ^^^ r5)) + x1) + x3)), (73, u32.slot x4)]) (H' := [box b5 181 (vec 8 u32) y2, box b2 181 (vec 8 u32) (Vector.replicate 8 (0#32)), box b1 181 (vec 8 u32) p_h]) .k9 .h3 ?_)
   refine jq (Yx (k := .u32) (b := 32) rfl rfl (ht rfl) (ht rfl)) ?_
   obtain ⟨x5, e11, h⟩ := bs h
   refine jq (PJ.eqv (pa (ht rfl)) (oi e11)) ?_
   refine Qd <| rs ?_
   obtain ⟨r6, e12, h⟩ := bs h
   obtain ⟨r7, e13, h⟩ := bs h
   obtain ⟨r8, e14, h⟩ := bs h
   refine rd (n := 12) (.p (Qq (n := 8) (sz := 1) (ht rfl) Qe Qh (by decide) (by decide) (by kernel_rfl)) <| .p (plb (ht rfl) .here (.t .a (Path.at 8 u32 0 (by decide)))) <| .p (pc (hc (ht rfl) <| hc (QE (x := 2#32) rfl) <| Q3) (JT e12)) <| .p (Qq (n := 8) (sz := 1) (ht rfl) Qe Qh (by decide) (by decide) (by kernel_rfl)) <| .p (plb (ht rfl) .here (.t .a (Path.at 8 u32 0 (by decide)))) <| .p (pc (hc (ht rfl) <| hc (QE (x := 13#32) rfl) <| Q3) (JT e13)) <| .p (Xu (k := .u32) (b := 32) rfl rfl (ht rfl) (ht rfl)) <| .p (Qq (n := 8) (sz := 1) (ht rfl) Qe Qh (by decide) (by decide) (by kernel_rfl)) <| .p (plb (ht rfl) .here (.t .a (Path.at 8 u32 0 (by decide)))) <| .p (pc (hc (ht rfl) <| hc (QE (x := 22#32) rfl) <| Q3) (JT e14)) <| .p (Xu (k := .u32) (b := 32) rfl rfl (ht rfl) (ht rfl)) <| .m rfl <| .nil) (Je (Γ' := [(2, val (.pointer (some ⟨b1, 0, none⟩))), (4, val (.pointer (some ⟨b2, 0, none⟩))), (5, Qt (vec 64 u32) r1), (6, Qt (vec 64 u32) r2), (7, val (.pointer (some ⟨b5, 0, none⟩))), (8, i64.slot y1), (11, u32.slot x5), (85, u32.slot ((r6 ^^^ r7) ^^^ r8)), (86, u32.slot x2)]) (H' := [box b5 181 (vec 8 u32) y2, box b2 181 (vec 8 u32) (Vector.replicate 8 (0#32)), box b1 181 (vec 8 u32) p_h]) .k9 .h3 ?_)
   refine jq (Yx (k := .u32) (b := 32) rfl rfl (ht rfl) (ht rfl)) ?_
   refine ja ?_
   refine Qd <| rt <| jm ?_
   refine jm ?_
   refine jq (Yx (k := .u32) (b := 32) rfl rfl (ht rfl) (ht rfl)) ?_
   refine jq (Qq (n := 8) (sz := 1) (ht rfl) Qe Qh (by decide) (by decide) (by kernel_rfl)) ?_
   refine jq (plb (ht rfl) .here (.t .a (Path.at 8 u32 0 (by decide)))) ?_
   refine jq (Qq (n := 8) (sz := 1) (ht rfl) Qe Qh (by decide) (by decide) (by kernel_rfl)) ?_
   refine jq (plb (ht rfl) .here (.t .a (Path.at 8 u32 1 (by decide)))) ?_
   refine jq (Qq (n := 8) (sz := 1) (ht rfl) Qe Qh (by decide) (by decide) (by kernel_rfl)) ?_
   refine jq (plb (ht rfl) .here (.t .a (Path.at 8 u32 2 (by decide)))) ?_
   refine jq (Qq (n := 8) (sz := 1) (ht rfl) Qe Qh (by decide) (by decide) (by kernel_rfl)) ?_
   refine jq (plb (ht rfl) .here (.t .a (Path.at 8 u32 3 (by decide)))) ?_
   refine jm ?_
   refine jq (Yx (k := .u32) (b := 32) rfl rfl (ht rfl) (ht rfl)) ?_
   refine jq (Qq (n := 8) (sz := 1) (ht rfl) Qe Qh (by decide) (by decide) (by kernel_rfl)) ?_
   refine jq (plb (ht rfl) .here (.t .a (Path.at 8 u32 4 (by decide)))) ?_
   refine jq (Qq (n := 8) (sz := 1) (ht rfl) Qe Qh (by decide) (by decide) (by kernel_rfl)) ?_
   refine jq (plb (ht rfl) .here (.t .a (Path.at 8 u32 5 (by decide)))) ?_
   refine jq (Qq (n := 8) (sz := 1) (ht rfl) Qe Qh (by decide) (by decide) (by kernel_rfl)) ?_
   refine jq (plb (ht rfl) .here (.t .a (Path.at 8 u32 6 (by decide)))) ?_
   obtain ⟨x6, e15, h⟩ := bs h
   refine jq (PJ.eqv (Ur (z0 := 0#32) (QA 8 QH) (by kernel_rfl) (.cons (ht rfl) (.cons (ht rfl) (.cons (ht rfl) (.cons (ht rfl) (.cons (ht rfl) (.cons (ht rfl) (.cons (ht rfl) (.cons (ht rfl) .nil)))))))) (by kernel_rfl) rfl) (oi e15)) ?_
   refine jk (r' := x6) (ht rfl) (ht rfl) .here .a ?_
   refine Qd <| Qs <| rt <| jm ?_
   refine jq (QW (ht rfl) Qe) ?_
   refine ja ?_
   refine Qd ?_
   obtain rfl := oi h
   exact QZ () .k6 .h3
  ·replace h := bf e3 h
   obtain rfl := oi h
   exact Jf () .k6 .h3
 ·rintro _
  show Run _ _ _ [(2, val (.pointer (some ⟨b1, 0, none⟩))), (4, val (.pointer (some ⟨b2, 0, none⟩))), (5, Qt (vec 64 u32) r1), (6, Qt (vec 64 u32) r2), (7, val (.pointer (some ⟨b5, 0, none⟩))), (8, i64.slot y3)] [box b5 181 (vec 8 u32) y4, box b2 181 (vec 8 u32) (Vector.replicate 8 (0#32)), box b1 181 (vec 8 u32) p_h]
  refine Q9 (Γ' := [(2, val (.pointer (some ⟨b1, 0, none⟩))), (4, val (.pointer (some ⟨b2, 0, none⟩))), (7, val (.pointer (some ⟨b5, 0, none⟩)))]) (H' := [box b5 181 (vec 8 u32) y4, box b2 181 (vec 8 u32) (Vector.replicate 8 (0#32)), box b1 181 (vec 8 u32) p_h]) .k3 .h3 ?_
  refine rs <| rs <| rt <| jq (pa Qe) ?_
  refine Qd ?_
  obtain ⟨⟨y7, y8⟩, e21, h⟩ := bs h
  refine Q2 (Γi := fun (i : Unit) (s : Int × (Vector (BitVec 32) 8)) => [(2, val (.pointer (some ⟨b1, 0, none⟩))), (4, val (.pointer (some ⟨b2, 0, none⟩))), (7, val (.pointer (some ⟨b5, 0, none⟩))), (13, i64.slot s.1)]) (Hi := fun (i : Unit) (s : Int × (Vector (BitVec 32) 8)) => [box b5 181 (vec 8 u32) y4, box b2 181 (vec 8 u32) (Vector.replicate 8 (0#32)), box b1 181 (vec 8 u32) s.2]) e21 () (fun a w hst => (hst.sub .k4).keep .h3) ?_ ?_
  ·clear h e21
   rintro _ ⟨y5, y6⟩ lr h
   change Yj y4 y5 y6 = some _ at h
   show Run _ _ _ [(2, val (.pointer (some ⟨b1, 0, none⟩))), (4, val (.pointer (some ⟨b2, 0, none⟩))), (7, val (.pointer (some ⟨b5, 0, none⟩))), (13, i64.slot y5)] [box b5 181 (vec 8 u32) y4, box b2 181 (vec 8 u32) (Vector.replicate 8 (0#32)), box b1 181 (vec 8 u32) y6]
   unfold Yj at h
   refine rs <| rs <| rt <| jm ?_
   refine jq (Q7 (ht rfl) Qe) ?_
   refine Qd <| Qn (ht rfl) (fun e17 => ?_) (fun e17 => ?_)
   ·replace h := bt e17 h
    refine Qm <| rs <| QJ ?_
    obtain ⟨x7, e18, h⟩ := bs h
    obtain ⟨x8, e19, h⟩ := bs h
    refine rd (n := 6) (.m rfl <| .p (Qq (n := 8) (sz := 1) (ht rfl) (ht rfl) Qh (QF e18).1 (ZT e18) (by kernel_rfl)) <| .p (PJ.eqv (plb (ht rfl) (.next (.next .here)) (.t .a (Path.atI 8 u32 y5.toNat (QF e18).2.1))) (ZW e18 (QF e18).2.1)) <| .m rfl <| .p (Qq (n := 8) (sz := 1) (ht rfl) (ht rfl) Qh (QF e19).1 (ZT e19) (by kernel_rfl)) <| .p (PJ.eqv (plb (ht rfl) .here (.t .a (Path.atI 8 u32 y5.toNat (QF e19).2.1))) (ZW e19 (QF e19).2.1)) <| .nil) (Je (Γ' := [(2, val (.pointer (some ⟨b1, 0, none⟩))), (4, val (.pointer (some ⟨b2, 0, none⟩))), (7, val (.pointer (some ⟨b5, 0, none⟩))), (13, i64.slot y5), (112, i64.slot y5), (114, u32.slot x7), (117, u32.slot x8)]) (H' := [box b5 181 (vec 8 u32) y4, box b2 181 (vec 8 u32) (Vector.replicate 8 (0#32)), box b1 181 (vec 8 u32) y6]) .k7 .h3 ?_)
    refine jq (Yx (k := .u32) (b := 32) rfl rfl (ht rfl) (ht rfl)) ?_
    obtain ⟨e20, h⟩ := QS h
    refine jq (Qq (n := 8) (sz := 1) (ht rfl) (ht rfl) Qh e20.1 e20.2 (by kernel_rfl)) ?_
    refine jk (r' := (y6.setIfInBounds y5.toNat (x7 + x8))) (ht rfl) (ht rfl) (.next (.next .here)) (.t .a (Path.atI 8 u32 y5.toNat (Vl e20))) ?_
    refine Qd <| Qs <| rt <| jm ?_
    refine jq (QW (ht rfl) Qe) ?_
    refine ja ?_
    refine Qd ?_
    obtain rfl := oi h
    exact QZ () .k4 (.cons (.next .here) <| .cons (.next .here) <| .cons .here <| .nil)
   ·replace h := bf e17 h
    obtain rfl := oi h
    exact Jf () .k4 .h3
  ·rintro _
   show Run _ _ _ [(2, val (.pointer (some ⟨b1, 0, none⟩))), (4, val (.pointer (some ⟨b2, 0, none⟩))), (7, val (.pointer (some ⟨b5, 0, none⟩))), (13, i64.slot y7)] [box b5 181 (vec 8 u32) y4, box b2 181 (vec 8 u32) (Vector.replicate 8 (0#32)), box b1 181 (vec 8 u32) y8]
   refine Q9 (Γ' := [(2, val (.pointer (some ⟨b1, 0, none⟩))), (4, val (.pointer (some ⟨b2, 0, none⟩)))]) (H' := [box b2 181 (vec 8 u32) (Vector.replicate 8 (0#32)), box b1 181 (vec 8 u32) y8]) .k2 (.cons (.next .here) <| .cons (.next .here) <| .nil) ?_
   refine rs <| rt <| jq (plb (ht rfl) (.next .here) .a) ?_
   refine jk (r' := y8) (ht rfl) (ht rfl) .here .a ?_
   refine Qd ?_
   obtain rfl := oi h
   exact Qo fun a w hst => QL hst rfl (.cell rfl .here (by kernel_rfl)) () (fun _ _ h => h) (.nil)
theorem Kq {G : GP} {p_b : List (BitVec 8)} {r : Qa} (h : YO p_b = some r) : Ctr Tryz.prog G 62 [(sl u8).slot p_b] [] (fun (_ : Unit) => Qb.slot r) (fun (_ : Unit) => []) := by
 unfold YO at h
 refine Qp Tryz.func62 rfl 42 rfl rfl fun m0 w0 b0 => ?_
 show Run _ _ _ [(0, (sl u8).slot p_b)] _
 refine rs <| rt <| al (x := (Vector.replicate 32 (0#8))) (R := Qb) (QA 32 QH) fun b1 => ?_
 refine Qd <| rs <| rt ?_
 obtain ⟨r1, e1, h⟩ := bs h
 refine jq (pc (Q3) (BL e1)) ?_
 refine al (x := (Vector.replicate 8 (0#32))) (R := (vec 8 u32)) (QA 8 QH) fun b2 => ?_
 refine jk (r' := r1) (ht rfl) (ht rfl) .here .a ?_
 refine Qd <| rs <| rt <| jm ?_
 obtain ⟨r2, e2, h⟩ := bs h
 refine jq (pc tl1 (Ctr.froze (Bw e2))) ?_
 refine ja ?_
 refine Qd <| rs <| rs <| rt <| jq (pa Qe) ?_
 refine Qd ?_
 obtain ⟨⟨y3, y4⟩, e6, h⟩ := bs h
 refine Q2 (Γi := fun (i : Unit) (s : Int × (Vector (BitVec 32) 8)) => [(2, val (.pointer (some ⟨b1, 0, none⟩))), (3, val (.pointer (some ⟨b2, 0, none⟩))), (4, (sl u8).slot r2), (5, i64.slot s.1)]) (Hi := fun (i : Unit) (s : Int × (Vector (BitVec 32) 8)) => [box b2 181 (vec 8 u32) s.2, box b1 23 Qb (Vector.replicate 32 (0#8))]) e6 () (fun a w hst => (hst.sub .k4).keep .h2) ?_ ?_
 ·clear h e6
  rintro _ ⟨y1, y2⟩ lr h
  change YA r2 y1 y2 = some _ at h
  show Run _ _ _ [(2, val (.pointer (some ⟨b1, 0, none⟩))), (3, val (.pointer (some ⟨b2, 0, none⟩))), (4, (sl u8).slot r2), (5, i64.slot y1)] [box b2 181 (vec 8 u32) y2, box b1 23 Qb (Vector.replicate 32 (0#8))]
  unfold YA at h
  refine rs <| rs <| rt <| jm ?_
  refine jm ?_
  refine jq (QX (sz := 1) (ht rfl) (by kernel_rfl)) ?_
  refine jq (Q7 (ht rfl) (ht rfl)) ?_
  refine Qd <| Qn (ht rfl) (fun e3 => ?_) (fun e3 => ?_)
  ·replace h := bt e3 h
   refine Qm <| rs <| QJ ?_
   obtain ⟨x1, e4, h⟩ := bs h
   refine rd (n := 6) (.p (plb (ht rfl) .here .a) <| .m rfl <| .m rfl <| .m rfl <| .p (QW (ht rfl) Qe) <| .p (ZH (ht rfl) (.yes (ht rfl) Qh) (.yes (ht rfl) Qh) e4 (by kernel_rfl)) <| .nil) (Je (Γ' := [(2, val (.pointer (some ⟨b1, 0, none⟩))), (3, val (.pointer (some ⟨b2, 0, none⟩))), (4, (sl u8).slot r2), (5, i64.slot y1), (17, (vec 8 u32).slot y2), (22, (sl u8).slot x1)]) (H' := [box b2 181 (vec 8 u32) y2, box b1 23 Qb (Vector.replicate 32 (0#8))]) .k6 .h2 ?_)
   obtain ⟨r3, e5, h⟩ := bs h
   refine jq (pc tl2 (qo e5)) ?_
   refine jk (r' := r3) (ht rfl) (ht rfl) .here .a ?_
   refine Qd <| Qs <| rt <| jm ?_
   refine jq (QW (ht rfl) Qe) ?_
   refine ja ?_
   refine Qd ?_
   obtain rfl := oi h
   exact QZ () .k4 .h2
  ·replace h := bf e3 h
   obtain rfl := oi h
   exact Jf () .k4 .h2
 ·rintro _
  show Run _ _ _ [(2, val (.pointer (some ⟨b1, 0, none⟩))), (3, val (.pointer (some ⟨b2, 0, none⟩))), (4, (sl u8).slot r2), (5, i64.slot y3)] [box b2 181 (vec 8 u32) y4, box b1 23 Qb (Vector.replicate 32 (0#8))]
  refine Q9 (Γ' := [(2, val (.pointer (some ⟨b1, 0, none⟩))), (3, val (.pointer (some ⟨b2, 0, none⟩)))]) (H' := [box b2 181 (vec 8 u32) y4, box b1 23 Qb (Vector.replicate 32 (0#8))]) .k2 .h2 ?_
  refine rs <| rt <| al (x := (Vector.replicate 32 (0#8))) (R := Qb) (QA 32 QH) fun b3 => ?_
  refine Qd <| rs <| rs <| rt <| jq (pa Qe) ?_
  refine Qd ?_
  obtain ⟨⟨y7, y8⟩, e11, h⟩ := bs h
  refine Q2 (Γi := fun (i : Unit) (s : Int × Qa) => [(2, val (.pointer (some ⟨b1, 0, none⟩))), (3, val (.pointer (some ⟨b2, 0, none⟩))), (6, val (.pointer (some ⟨b3, 0, none⟩))), (7, i64.slot s.1)]) (Hi := fun (i : Unit) (s : Int × Qa) => [box b3 23 Qb s.2, box b2 181 (vec 8 u32) y4, box b1 23 Qb (Vector.replicate 32 (0#8))]) e11 () (fun a w hst => (hst.sub .k4).keep .h3) ?_ ?_
  ·clear h e11
   rintro _ ⟨y5, y6⟩ lr h
   change YD y4 y5 y6 = some _ at h
   show Run _ _ _ [(2, val (.pointer (some ⟨b1, 0, none⟩))), (3, val (.pointer (some ⟨b2, 0, none⟩))), (6, val (.pointer (some ⟨b3, 0, none⟩))), (7, i64.slot y5)] [box b3 23 Qb y6, box b2 181 (vec 8 u32) y4, box b1 23 Qb (Vector.replicate 32 (0#8))]
   unfold YD at h
   refine rs <| rs <| rt <| jm ?_
   refine jq (Q7 (ht rfl) Qe) ?_
   refine Qd <| Qn (ht rfl) (fun e7 => ?_) (fun e7 => ?_)
   ·replace h := bt e7 h
    refine Qm <| rs <| QJ <| rt <| jm ?_
    refine jm ?_
    refine jq (B3 (ht rfl) Qe (by decide)) ?_
    obtain ⟨x2, e8, h⟩ := bs h
    refine jq (Qq (n := 8) (sz := 1) (ht rfl) (ht rfl) Qh (QF e8).1 (ZT e8) (by kernel_rfl)) ?_
    refine jq (PJ.eqv (plb (ht rfl) (.next .here) (.t .a (Path.atI 8 u32 ((w64 (Int.tdiv y5 (4 : Int))).toNat) (QF e8).2.1))) (ZW e8 (QF e8).2.1)) ?_
    refine jm ?_
    refine jq (qn (ht rfl) Qe (by decide)) ?_
    refine jq (Jo (k := .u32) (b := 32) rfl rfl (by kernel_rfl) (ht rfl) Qh) ?_
    refine jq (Qb7 (k := .u32) (b := 32) rfl rfl (QE (x := 8#32) rfl) (ht rfl)) ?_
    refine jq (Qb3 (k := .u32) (b := 32) rfl rfl (QE (x := 24#32) rfl) (ht rfl)) ?_
    refine jq (Xe (k := .u32) (b := 32) rfl (ht rfl) (ht rfl) JY (Int.natCast_nonneg _)) ?_
    refine jq (Zi (k := .u8) (b := 8) rfl rfl (by kernel_rfl) (ht rfl)) ?_
    obtain ⟨e9, h⟩ := QS h
    refine jq (Qq (n := 32) (sz := 1) (ht rfl) (ht rfl) Qh e9.1 e9.2 (by kernel_rfl)) ?_
    obtain ⟨x3, e10, h⟩ := bs h
    refine ZF (r' := x3) (ht rfl) (ht rfl) .here (.t .a (Path.atI 32 u8 y5.toNat (Vl e9))) (by kernel_rfl) (oi e10) ?_
    refine Qd <| Qs <| rt <| jm ?_
    refine jq (QW (ht rfl) Qe) ?_
    refine ja ?_
    refine Qd ?_
    obtain rfl := oi h
    exact QZ () .k4 .h3
   ·replace h := bf e7 h
    obtain rfl := oi h
    exact Jf () .k4 .h3
  ·rintro _
   show Run _ _ _ [(2, val (.pointer (some ⟨b1, 0, none⟩))), (3, val (.pointer (some ⟨b2, 0, none⟩))), (6, val (.pointer (some ⟨b3, 0, none⟩))), (7, i64.slot y7)] [box b3 23 Qb y8, box b2 181 (vec 8 u32) y4, box b1 23 Qb (Vector.replicate 32 (0#8))]
   refine Q9 (Γ' := [(2, val (.pointer (some ⟨b1, 0, none⟩))), (6, val (.pointer (some ⟨b3, 0, none⟩)))]) (H' := [box b3 23 Qb y8, box b1 23 Qb (Vector.replicate 32 (0#8))]) .k2 (.cons .here <| .cons (.next .here) <| .nil) ?_
   refine rs <| rt <| jq (plb (ht rfl) .here .a) ?_
   refine jk (r' := y8) (ht rfl) (ht rfl) (.next .here) .a ?_
   refine Qd ?_
   obtain rfl := oi h
   exact Qo fun a w hst => QL hst rfl (.cell rfl .here (by kernel_rfl)) () (fun _ _ h => h) (.nil)
theorem qx {G : GP} {p_b : List (BitVec 8)} {r : Qa} (h : XN p_b = some r) : Ctr Tryz.prog G 101 [(sl u8).slot p_b] [] (fun (_ : Unit) => Qb.slot r) (fun (_ : Unit) => []) := by
 unfold XN at h
 refine Qp Tryz.func101 rfl 10 rfl rfl fun m0 w0 b0 => ?_
 show Run _ _ _ [(0, (sl u8).slot p_b)] _
 refine rs <| rt <| al (x := (Vector.replicate 32 (0#8))) (R := Qb) (QA 32 QH) fun b1 => ?_
 refine Qd <| rs <| rt <| V4 (T := 5) (R := u8) (.cons (QE (x := 0#8) rfl) .nil) rfl (by kernel_rfl) (by kernel_rfl) rfl fun v1 => ?_
 refine ja ?_
 refine Qd <| rs <| rt <| jm ?_
 refine jm ?_
 obtain ⟨e1, h⟩ := QS h
 refine JQ (T := 5) (E := 5) (ht rfl) .here (JE (ht rfl)) (by kernel_rfl) (by kernel_rfl) e1 rfl fun v2 => ?_
 refine ja ?_
 refine Qd <| rs <| rt <| jm ?_
 obtain ⟨r1, e2, h⟩ := bs h
 refine jq (Yo (Q1 (VO (ht rfl) .here) <| Zj) (by kernel_rfl) (Kq e2) (Rep.flat_slot (X9 _ (V9 _ _)) _)) ?_
 refine jk (r' := r1) (ht rfl) (ht rfl) (.next .here) .a ?_
 refine Qd ?_
 obtain rfl := oi h
 exact Qo fun a w hst => QL hst rfl (.cell rfl .here (by kernel_rfl)) () (fun _ _ h => h) (.nil)
theorem BF {G : GP} {p_epoch : Int} {p_tree : Qa} {r : Qa} (h : Xl p_epoch p_tree = some r) : Ctr Tryz.prog G 57 [i64.slot p_epoch, Qb.slot p_tree] [] (fun (_ : Unit) => Qb.slot r) (fun (_ : Unit) => []) := by
 unfold Xl at h
 refine Qp Tryz.func57 rfl 14 rfl rfl fun m0 w0 b0 => ?_
 show Run _ _ _ [(0, i64.slot p_epoch), (1, Qb.slot p_tree)] _
 refine rs <| rt <| jq (Q0 (ht rfl)) ?_
 refine al (x := (Vector.replicate 32 (0#8))) (R := Qb) (QA 32 QH) fun b1 => ?_
 refine Qd <| rs <| rt <| jm ?_
 refine jq (Jo (k := .u64) (b := 64) rfl rfl (by kernel_rfl) (ht rfl) Qh) ?_
 refine jq (Qb2 (k := .u64) (b := 64) (ht rfl) (QE (x := 4294967296#64) rfl) (by decide)) ?_
 obtain ⟨r1, e1, h⟩ := bs h
 refine jc (hc (ht rfl) <| hc Qe <| Q3) (K7 e1) .nil fun v1 => ?_
 refine ja ?_
 refine Qd <| rs <| rt <| jm ?_
 refine jq (JA (ht rfl) (by decide) (by kernel_rfl)) ?_
 obtain ⟨e2, h⟩ := QS h
 refine JQ (T := 5) (E := 5) (ht rfl) .here (JE (ht rfl)) (by kernel_rfl) (by kernel_rfl) e2 rfl fun v2 => ?_
 obtain ⟨r2, e3, h⟩ := bs h
 refine jq (Yo (Q1 (VO (ht rfl) .here) <| Zj) (by kernel_rfl) (qx e3) (Rep.flat_slot (X9 _ (V9 _ _)) _)) ?_
 refine jk (r' := r2) (ht rfl) (ht rfl) (.next .here) .a ?_
 refine Qd ?_
 obtain rfl := oi h
 exact Qo fun a w hst => QL hst rfl (.cell rfl .here (by kernel_rfl)) () (fun _ _ h => h) (.nil)
theorem KX {G : GP} {p_n : Int} {r : (List Qa)} (h : Yl p_n = some r) : Ctr Tryz.prog G 20 [i64.slot p_n] [] (fun (u0 : Value) => ov u0) (fun (u0 : Value) => [own 23 Qb u0 r]) := by
 unfold Yl at h
 refine Qp Tryz.func20 rfl 19 rfl rfl fun m0 w0 b0 => ?_
 show Run _ _ _ [(0, i64.slot p_n)] _
 refine rs <| rt <| QN (T := 23) Qb rfl fun v1 => ?_
 refine Qd <| rs <| rt <| QN (T := 23) Qb rfl fun v2 => ?_
 refine Qd <| rs <| rs <| rt <| jq (pa Qe) ?_
 refine Qd ?_
 obtain ⟨⟨y3, y4⟩, e5, h⟩ := bs h
 refine Q2 (Γi := fun (i : Value) (s : Int × (List Qa)) => [(0, i64.slot p_n), (3, ov i), (4, i64.slot s.1)]) (Hi := fun (i : Value) (s : Int × (List Qa)) => [own 23 Qb i s.2]) e5 v2 (fun a w hst => (hst.sub .k3).keep .h1) ?_ ?_
 ·clear h e5
  rintro v3 ⟨y1, y2⟩ lr h
  change Yp p_n y1 y2 = some _ at h
  show Run _ _ _ [(0, i64.slot p_n), (3, ov v3), (4, i64.slot y1)] [own 23 Qb v3 y2]
  unfold Yp at h
  refine rs <| rs <| rt <| jm ?_
  refine jm ?_
  refine jq (KS (ht rfl) (ht rfl)) ?_
  refine Qd <| Qn (ht rfl) (fun e1 => ?_) (fun e1 => ?_)
  ·replace h := bt e1 h
   refine Qm <| rs <| QJ <| rt <| jm ?_
   refine jm ?_
   refine jm ?_
   refine jq (Jo (k := .u8) (b := 8) rfl rfl (by kernel_rfl) (ht rfl) Qh) ?_
   obtain ⟨x1, e2, h⟩ := bs h
   refine jq (PJ.eqv (JZ (R := Qb) (QA 32 QH) (by kernel_rfl) (by kernel_rfl) rfl (.cons (ht rfl) (Path.at 32 u8 0 (by decide)) (by kernel_rfl) .nil)) (oi e2)) ?_
   obtain ⟨r1, e3, h⟩ := bs h
   refine jq (pc tl2 (BF e3)) ?_
   refine jq (QT (T := 23) (R := Qb) (.cons (ht rfl) .nil) rfl (by kernel_rfl) (by kernel_rfl)) ?_
   obtain ⟨e4, h⟩ := QS h
   refine JQ (T := 23) (E := 23) (ht rfl) .here (JE (ht rfl)) (by kernel_rfl) (by kernel_rfl) e4 rfl fun v4 => ?_
   refine ja ?_
   refine Qd <| Qs <| rt <| jm ?_
   refine jq (QW (ht rfl) Qe) ?_
   refine ja ?_
   refine Qd ?_
   obtain rfl := oi h
   exact QZ v4 .k3 .h1
  ·replace h := bf e1 h
   obtain rfl := oi h
   exact Jf v3 .k3 .h1
 ·rintro v5
  show Run _ _ _ [(0, i64.slot p_n), (3, ov v5), (4, i64.slot y3)] [own 23 Qb v5 y4]
  refine Q9 (Γ' := [(3, ov v5)]) (H' := [own 23 Qb v5 y4]) .k1 .h1 ?_
  refine rs <| rt <| jm ?_
  refine ja ?_
  refine Qd ?_
  obtain rfl := oi h
  exact Qo fun a w hst => QL hst rfl (.tmp rfl) v5 (fun _ _ h => h) .h1
theorem qz {G : GP} {p_a : Qa} {p_b : Qa} {r : (List (BitVec 8))} (h : XG p_a p_b = some r) : Ctr Tryz.prog G 69 [Qb.slot p_a, Qb.slot p_b] [] (fun (u0 : Value) => ov u0) (fun (u0 : Value) => [own 5 u8 u0 r]) := by
 unfold XG at h
 refine Qp Tryz.func69 rfl 13 rfl rfl fun m0 w0 b0 => ?_
 show Run _ _ _ [(0, Qb.slot p_a), (1, Qb.slot p_b)] _
 refine rs <| rt <| jq (Q0 (ht rfl)) ?_
 refine jq (Q0 (ht rfl)) ?_
 refine QN (T := 5) u8 rfl fun v1 => ?_
 refine Qd <| rs <| rt <| V4 (T := 5) (R := u8) (.cons (QE (x := 1#8) rfl) .nil) rfl (by kernel_rfl) (by kernel_rfl) rfl fun v2 => ?_
 refine ja ?_
 refine Qd <| rs <| rt <| jm ?_
 refine jq (JA (ht rfl) (by decide) (by kernel_rfl)) ?_
 obtain ⟨e1, h⟩ := QS h
 refine JQ (T := 5) (E := 5) (ht rfl) .here (JE (ht rfl)) (by kernel_rfl) (by kernel_rfl) e1 rfl fun v3 => ?_
 refine ja ?_
 refine Qd <| rs <| rt <| jm ?_
 refine jq (JA (ht rfl) (by decide) (by kernel_rfl)) ?_
 obtain ⟨e2, h⟩ := QS h
 refine JQ (T := 5) (E := 5) (ht rfl) .here (JE (ht rfl)) (by kernel_rfl) (by kernel_rfl) e2 rfl fun v4 => ?_
 refine ja ?_
 refine Qd ?_
 obtain rfl := oi h
 exact Qo fun a w hst => QL hst rfl (.tmp rfl) v4 (fun _ _ h => h) .h1
theorem qt {G : GP} {p_a : Qa} {p_b : Qa} {r : Qa} (h : XB p_a p_b = some r) : Ctr Tryz.prog G 63 [Qb.slot p_a, Qb.slot p_b] [] (fun (_ : Unit) => Qb.slot r) (fun (_ : Unit) => []) := by
 unfold XB at h
 refine Qp Tryz.func63 rfl 9 rfl rfl fun m0 w0 b0 => ?_
 show Run _ _ _ [(0, Qb.slot p_a), (1, Qb.slot p_b)] _
 refine rs <| rt <| jq (Q0 (ht rfl)) ?_
 refine jq (Q0 (ht rfl)) ?_
 refine al (x := (Vector.replicate 32 (0#8))) (R := Qb) (QA 32 QH) fun b1 => ?_
 refine Qd <| rs <| rt <| jl ?_
 refine jl ?_
 obtain ⟨r1, e1, h⟩ := bs h
 refine jq (pc tl2 (Ctr.froze (qz e1))) ?_
 obtain ⟨r2, e2, h⟩ := bs h
 refine jq (pc tl1 (Kq e2)) ?_
 refine jk (r' := r2) (ht rfl) (ht rfl) .here .a ?_
 refine Qd ?_
 obtain rfl := oi h
 exact Qo fun a w hst => QL hst rfl (.cell rfl .here (by kernel_rfl)) () (fun _ _ h => h) (.nil)
theorem By {G : GP} {rc : (List Qa) → Option Qa} (hrc : ∀ {p_l : List Qa} {r : Qa}, rc p_l = some r → Ctr Tryz.prog G 23 [(sl Qb).slot p_l] [] (fun (_ : Unit) => Qb.slot r) (fun (_ : Unit) => [])) {p_l : List Qa} {r : Qa} (h : Xc rc p_l = some r) : Ctr Tryz.prog G 23 [(sl Qb).slot p_l] [] (fun (_ : Unit) => Qb.slot r) (fun (_ : Unit) => []) := by
 unfold Xc at h
 refine Qp Tryz.func23 rfl 31 rfl rfl fun m0 w0 b0 => ?_
 show Run _ _ _ [(0, (sl Qb).slot p_l)] _
 refine rs <| rt <| al (x := (Vector.replicate 32 (0#8))) (R := Qb) (QA 32 QH) fun b1 => ?_
 refine Qd <| rs <| rs <| rt <| jm ?_
 refine jq (QX (sz := 32) (ht rfl) (by kernel_rfl)) ?_
 refine jq (ZJ (ht rfl) Qe) ?_
 refine Qd <| Qn (ht rfl) (fun e1 => ?_) (fun e1 => ?_)
 ·replace h := bt e1 h
  refine rs <| rt ?_
  obtain ⟨r1, e2, h⟩ := bs h
  refine jq (pc (hc (Bl (R := u8)) <| Q3) (Kq e2)) ?_
  refine jk (r' := r1) (ht rfl) (ht rfl) .here .a ?_
  refine Qd ?_
  obtain rfl := oi h
  exact Qo fun a w hst => QL hst rfl (.cell rfl .here (by kernel_rfl)) () (fun _ _ h => h) (.nil)
 ·replace h := bf e1 h
  refine Qm <| rs <| rs <| rt <| jm ?_
  refine jq (QX (sz := 32) (ht rfl) (by kernel_rfl)) ?_
  refine jq (ZJ (ht rfl) Qe) ?_
  refine Qd <| Qn (ht rfl) (fun e3 => ?_) (fun e3 => ?_)
  ·replace h := bt e3 h
   refine rs <| rt <| jm ?_
   obtain ⟨x1, e4, h⟩ := bs h
   refine jq (pix (ht rfl) Qe Qh e4) ?_
   refine jl ?_
   refine jk (r' := x1) (ht rfl) (ht rfl) .here .a ?_
   refine Qd ?_
   obtain rfl := oi h
   exact Qo fun a w hst => QL hst rfl (.cell rfl .here (by kernel_rfl)) () (fun _ _ h => h) (.nil)
  ·replace h := bf e3 h
   refine Qm <| rs <| rt <| jq (pa Qe) ?_
   refine Qd <| rs ?_
   obtain ⟨y2, e6, h⟩ := bs h
   refine Q2 (Γi := fun (i : Unit) (s : Int) => [(0, (sl Qb).slot p_l), (2, val (.pointer (some ⟨b1, 0, none⟩))), (3, i64.slot s)]) (Hi := fun (i : Unit) (s : Int) => [box b1 23 Qb (Vector.replicate 32 (0#8))]) e6 () (fun a w hst => (hst.sub .k3).keep .h1) ?_ ?_
   ·clear h e6
    rintro _ y1 lr h
    change XH p_l y1 = some _ at h
    show Run _ _ _ [(0, (sl Qb).slot p_l), (2, val (.pointer (some ⟨b1, 0, none⟩))), (3, i64.slot y1)] [box b1 23 Qb (Vector.replicate 32 (0#8))]
    unfold XH at h
    refine rs <| rs <| rt <| jm ?_
    refine jm ?_
    refine jq (QX (sz := 32) (ht rfl) (by kernel_rfl)) ?_
    refine jm ?_
    refine jq (JS (ht rfl) (ht rfl)) ?_
    refine jq (Q7 (ht rfl) (ht rfl)) ?_
    refine Qd <| Qn (ht rfl) (fun e5 => ?_) (fun e5 => ?_)
    ·replace h := bt e5 h
     refine Qm <| QJ <| rt <| jm ?_
     refine jq (XJ Qe (ht rfl)) ?_
     refine ja ?_
     refine Qd <| Qs ?_
     obtain rfl := oi h
     exact QZ () .k3 .h1
    ·replace h := bf e5 h
     obtain rfl := oi h
     exact Jf () .k3 .h1
   ·rintro _
    show Run _ _ _ [(0, (sl Qb).slot p_l), (2, val (.pointer (some ⟨b1, 0, none⟩))), (3, i64.slot y2)] [box b1 23 Qb (Vector.replicate 32 (0#8))]
    refine Q9 (Γ' := [(0, (sl Qb).slot p_l), (2, val (.pointer (some ⟨b1, 0, none⟩))), (3, i64.slot y2)]) (H' := [box b1 23 Qb (Vector.replicate 32 (0#8))]) .k3 .h1 ?_
    refine rs ?_
    obtain ⟨x2, e7, h⟩ := bs h
    obtain ⟨r2, e8, h⟩ := bs h
    obtain ⟨x3, e9, h⟩ := bs h
    refine rd (n := 7) (.m rfl <| .m rfl <| .p (ZH (ht rfl) .no (.yes (ht rfl) Qh) e7 (by kernel_rfl)) <| .p (pc tl1 (hrc e8)) <| .m rfl <| .m rfl <| .p (ZH (ht rfl) (.yes (ht rfl) Qh) .no e9 (by kernel_rfl)) <| .nil) (Je (Γ' := [(2, val (.pointer (some ⟨b1, 0, none⟩))), (25, Qb.slot r2), (28, (sl Qb).slot x3)]) (H' := [box b1 23 Qb (Vector.replicate 32 (0#8))]) .k3 .h1 ?_)
    obtain ⟨r3, e10, h⟩ := bs h
    refine jq (pc tl1 (hrc e10)) ?_
    obtain ⟨r4, e11, h⟩ := bs h
    refine jq (pc tl2 (qt e11)) ?_
    refine jk (r' := r4) (ht rfl) (ht rfl) .here .a ?_
    refine Qd ?_
    obtain rfl := oi h
    exact Qo fun a w hst => QL hst rfl (.cell rfl .here (by kernel_rfl)) () (fun _ _ h => h) (.nil)
theorem Bu {G : GP} : ∀ (n : Nat) {p_l : List Qa} {r : Qa}, Y8 n p_l = some r → Ctr Tryz.prog G 23 [(sl Qb).slot p_l] [] (fun (_ : Unit) => Qb.slot r) (fun (_ : Unit) => []) := by
 intro n
 induction n with
 | zero => intro p_l r h; cases h
 | succ n ih => intro p_l r h; exact By (fun h => ih h) h
theorem UN {G : GP} {p_l : List Qa} {r : Qa} (h : VK p_l = some r) : Ctr Tryz.prog G 23 [(sl Qb).slot p_l] [] (fun (_ : Unit) => Qb.slot r) (fun (_ : Unit) => []) := Bu FU h
theorem Wj {G : GP} {p_from : Int} {p_to : Int} {r : Bool} (h : V6 p_from p_to = some r) : Ctr Tryz.prog G 185 [i64.slot p_from, i64.slot p_to] [] (fun (_ : Unit) => bl.slot r) (fun (_ : Unit) => []) := by
 unfold V6 at h
 refine Qp Tryz.func185 rfl 16 rfl rfl fun m0 w0 b0 => ?_
 show Run _ _ _ [(0, i64.slot p_from), (1, i64.slot p_to)] _
 refine rs <| rt <| jq (pa QU) ?_
 refine Qd <| rs <| rt <| jm ?_
 refine jq (XF (ht rfl) Qe) ?_
 refine jm ?_
 obtain ⟨y1, e2, h⟩ := bs h
 refine Jz (ι := Unit) (Γ' := fun _ => [(1, i64.slot p_to), (11, bl.slot y1)]) (H' := fun _ => []) 4 ?_ fun J => ?_
 ·intro _
  clear e2
  show Jc _ _ _ [(1, i64.slot p_to), (11, bl.slot y1)] [] _
  refine jm ?_
  obtain ⟨y2, e4, h⟩ := bs h
  refine Jz (ι := Unit) (Γ' := fun _ => [(15, bl.slot y2)]) (H' := fun _ => []) 3 ?_ fun J => ?_
  ·intro _
   clear e4
   show Jc _ _ _ [(15, bl.slot y2)] [] _
   refine ja ?_
   refine Qd ?_
   obtain rfl := oi h
   exact Qo fun a w hst => QL hst rfl (.tmp rfl) () (fun _ _ h => h) (.nil)
  ·rcases Jl (y1) with e3 | e3
   ·replace e4 := bt e3 e4
    refine jz (pm (ht rfl)) e3 ?_
    refine jz (KS (ht rfl) Qe) e3 ?_
    refine jq (pk1 e3 (ht rfl) (oi e4)) ?_
    exact Je .k1 (.nil) (J ())
   ·replace e4 := bf e3 e4
    refine jn e3 ?_
    refine jn e3 ?_
    refine jq (pk2 e3 QU (oi e4)) ?_
    exact Je .k1 (.nil) (J ())
 ·rcases Jl (decide ((0 : Int) ≤ p_from)) with e1 | e1
  ·replace e2 := bt e1 e2
   refine jz (pm (ht rfl)) e1 ?_
   refine jz (pm (ht rfl)) e1 ?_
   refine jz (KS (ht rfl) (ht rfl)) e1 ?_
   refine jq (pk1 e1 (ht rfl) (oi e2)) ?_
   exact Je .k2 (.nil) (J ())
  ·replace e2 := bf e1 e2
   refine jn e1 ?_
   refine jn e1 ?_
   refine jn e1 ?_
   refine jq (pk2 e1 QU (oi e2)) ?_
   exact Je .k2 (.nil) (J ())
theorem Qao {G : GP} {p_x : BitVec 64} {r : Int} (h : Vr p_x = some r) : Ctr Tryz.prog G 191 [u64.slot p_x] [] (fun (_ : Unit) => i64.slot r) (fun (_ : Unit) => []) := by
 unfold Vr at h
 refine Qp Tryz.func191 rfl 25 rfl rfl fun m0 w0 b0 => ?_
 show Run _ _ _ [(0, u64.slot p_x)] _
 refine rs <| rt <| jq (pa Qe) ?_
 refine Qd <| rs <| rs <| rt <| jm ?_
 refine jq (Qd3 (k := .u64) (b := 64) (ht rfl) (QE (x := 4294967296#64) rfl)) ?_
 refine Qd ?_
 obtain ⟨⟨y1, y2⟩, e2, h⟩ := bs h
 refine KC (ι := Unit) (Γ' := fun (_ : Unit) => [(0, u64.slot y1), (2, i64.slot y2)]) (H' := fun (_ : Unit) => []) ?_ fun J => ?_
 ·intro _
  clear e2
  show Run _ _ _ [(0, u64.slot y1), (2, i64.slot y2)] []
  refine rs <| rs <| rt <| jm ?_
  refine jq (Qd3 (k := .u64) (b := 64) (ht rfl) (QE (x := 65536#64) rfl)) ?_
  refine Qd ?_
  obtain ⟨⟨y3, y4⟩, e4, h⟩ := bs h
  refine KC (ι := Unit) (Γ' := fun (_ : Unit) => [(0, u64.slot y3), (2, i64.slot y4)]) (H' := fun (_ : Unit) => []) ?_ fun J => ?_
  ·intro _
   clear e4
   show Run _ _ _ [(0, u64.slot y3), (2, i64.slot y4)] []
   refine rs <| rs <| rt <| jm ?_
   refine jq (Qd3 (k := .u64) (b := 64) (ht rfl) (QE (x := 256#64) rfl)) ?_
   refine Qd ?_
   obtain ⟨⟨y5, y6⟩, e6, h⟩ := bs h
   refine KC (ι := Unit) (Γ' := fun (_ : Unit) => [(0, u64.slot y5), (2, i64.slot y6)]) (H' := fun (_ : Unit) => []) ?_ fun J => ?_
   ·intro _
    clear e6
    show Run _ _ _ [(0, u64.slot y5), (2, i64.slot y6)] []
    refine rs <| rt <| jm ?_
    refine jm ?_
    refine jq (Zi (k := .u8) (b := 8) rfl rfl (by kernel_rfl) (ht rfl)) ?_
    obtain ⟨x1, e7, h⟩ := bs h
    refine jq (Qd4 (QjB (xs := S_0) (by kernel_rfl)) (ht rfl) JY e7 (by kernel_rfl)) ?_
    refine jq (YQ (by decide) (by kernel_rfl) (ht rfl)) ?_
    refine jq (QW (ht rfl) (ht rfl)) ?_
    refine ja ?_
    refine Qd ?_
    obtain rfl := oi h
    exact Qo fun a w hst => QL hst rfl (.tmp rfl) () (fun _ _ h => h) (.nil)
   ·refine Qn (ht rfl) (fun e5 => ?_) (fun e5 => ?_)
    ·replace h := bt e5 e6
     refine rs <| rt <| jm ?_
     refine jq (Xe (k := .u64) (b := 64) rfl (ht rfl) (QE (x := 8#64) rfl) JY (Int.natCast_nonneg _)) ?_
     refine ja ?_
     refine Qd <| rt <| jm ?_
     refine jq (QW (ht rfl) Qe) ?_
     refine ja ?_
     refine Qd ?_
     obtain ⟨rfl, rfl⟩ := Prod.mk.inj (oi h)
     exact Q9 .k2 (.nil) (J ())
    ·replace h := bf e5 e6
     refine Qm ?_
     obtain ⟨rfl, rfl⟩ := Prod.mk.inj (oi h)
     exact Q9 .k2 (.nil) (J ())
  ·refine Qn (ht rfl) (fun e3 => ?_) (fun e3 => ?_)
   ·replace h := bt e3 e4
    refine rs <| rt <| jm ?_
    refine jq (Xe (k := .u64) (b := 64) rfl (ht rfl) (QE (x := 16#64) rfl) JY (Int.natCast_nonneg _)) ?_
    refine ja ?_
    refine Qd <| rt <| jm ?_
    refine jq (QW (ht rfl) Qe) ?_
    refine ja ?_
    refine Qd ?_
    obtain ⟨rfl, rfl⟩ := Prod.mk.inj (oi h)
    exact Q9 .k2 (.nil) (J ())
   ·replace h := bf e3 e4
    refine Qm ?_
    obtain ⟨rfl, rfl⟩ := Prod.mk.inj (oi h)
    exact Q9 .k2 (.nil) (J ())
 ·refine Qn (ht rfl) (fun e1 => ?_) (fun e1 => ?_)
  ·replace h := bt e1 e2
   refine rs <| rt <| jm ?_
   refine jq (Xe (k := .u64) (b := 64) rfl (ht rfl) (QE (x := 32#64) rfl) JY (Int.natCast_nonneg _)) ?_
   refine ja ?_
   refine Qd <| rt <| jq (pa Qe) ?_
   refine Qd ?_
   obtain ⟨rfl, rfl⟩ := Prod.mk.inj (oi h)
   exact Q9 .k2 (.nil) (J ())
  ·replace h := bf e1 e2
   refine Qm ?_
   obtain ⟨rfl, rfl⟩ := Prod.mk.inj (oi h)
   exact Q9 .k2 (.nil) (J ())
theorem QbR {G : GP} {p_x : BitVec 64} {r : Int} (h : Km p_x = some r) : Ctr Tryz.prog G 188 [u64.slot p_x] [] (fun (_ : Unit) => i64.slot r) (fun (_ : Unit) => []) := by
 unfold Km at h
 refine Qp Tryz.func188 rfl 8 rfl rfl fun m0 w0 b0 => ?_
 show Run _ _ _ [(0, u64.slot p_x)] _
 refine rs <| rt <| jq (pa Qe) ?_
 refine Qd <| rs <| Yi QU rfl ?_
 refine Qm <| rs <| rt <| jm ?_
 obtain ⟨r1, e2, h⟩ := bs h
 refine jq (pc tl1 (Qao e2)) ?_
 refine ja ?_
 refine Qd ?_
 obtain rfl := oi h
 exact Qo fun a w hst => QL hst rfl (.tmp rfl) () (fun _ _ h => h) (.nil)
theorem UP {G : GP} (hg4 : HG4 G) {p_x : BitVec 64} {r : Int} (h : ZY p_x = some r) : Ctr Tryz.prog G 193 [u64.slot p_x] [] (fun (_ : Unit) => i64.slot r) (fun (_ : Unit) => []) := by
 unfold ZY at h
 refine Qp Tryz.func193 rfl 14 rfl rfl fun m0 w0 b0 => ?_
 show Run _ _ _ [(0, u64.slot p_x)] _
 refine rs <| rt <| jq (pa Qe) ?_
 refine Qd <| rs <| rs <| rt <| jm ?_
 refine jq (Qkx (k := .u64) (b := 64) (ht rfl) (QE (x := 0#64) rfl)) ?_
 refine Qd <| Qn (ht rfl) (fun e1 => ?_) (fun e1 => ?_)
 ·replace h := bt e1 h
  refine rs <| rt <| jq (pa Qe) ?_
  refine Qd ?_
  obtain rfl := oi h
  exact Qo fun a w hst => QL hst rfl (.tmp rfl) () (fun _ _ h => h) (.nil)
 ·replace h := bf e1 h
  refine Qm <| rs <| rt <| jm ?_
  refine jm ?_
  refine jq (Qkt (k := .u64) (b := 64) rfl rfl (ht rfl)) ?_
  refine jq (Uk (k := .u64) (b := 64) rfl rfl (ht rfl) (ht rfl)) ?_
  refine jq (Qb7 (k := .u64) (b := 64) rfl rfl (ht rfl) (QE (x := 285870213051353865#64) rfl)) ?_
  refine jq (Xe (k := .u64) (b := 64) rfl (ht rfl) (QE (x := 58#64) rfl) JY (Int.natCast_nonneg _)) ?_
  obtain ⟨x1, e2, h⟩ := bs h
  refine jq (BE (v := Zq) hg4 (ht rfl) JY e2 (by kernel_rfl)) ?_
  refine jl ?_
  refine jq (YQ (by decide) (by kernel_rfl) (ht rfl)) ?_
  refine ja ?_
  refine Qd ?_
  obtain rfl := oi h
  exact Qo fun a w hst => QL hst rfl (.tmp rfl) () (fun _ _ h => h) (.nil)
theorem Wo {G : GP} (hg3 : HG3 G) (hg4 : HG4 G) {p_x : BitVec 64} {r : Int} (h : Ym p_x = some r) : Ctr Tryz.prog G 189 [u64.slot p_x] [] (fun (_ : Unit) => i64.slot r) (fun (_ : Unit) => []) := by
 unfold Ym at h
 refine Qp Tryz.func189 rfl 8 rfl rfl fun m0 w0 b0 => ?_
 show Run _ _ _ [(0, u64.slot p_x)] _
 refine rs <| rt <| jq (pa Qe) ?_
 refine Qd <| rs <| Yi QU rfl ?_
 refine Qm <| rs <| rt <| jm ?_
 obtain ⟨r1, e2, h⟩ := bs h
 refine jq (pc tl1 (UP hg4 e2)) ?_
 refine ja ?_
 refine Qd ?_
 obtain rfl := oi h
 exact Qo fun a w hst => QL hst rfl (.tmp rfl) () (fun _ _ h => h) (.nil)
theorem qR {G : GP} (hg3 : HG3 G) (hg4 : HG4 G) {p_from : Int} {p_to : Int} {r : Int} (h : Xh p_from p_to = some r) : Ctr Tryz.prog G 186 [i64.slot p_from, i64.slot p_to] [] (fun (_ : Unit) => i64.slot r) (fun (_ : Unit) => []) := by
 unfold Xh at h
 refine Qp Tryz.func186 rfl 22 rfl rfl fun m0 w0 b0 => ?_
 show Run _ _ _ [(0, i64.slot p_from), (1, i64.slot p_to)] _
 refine rs <| rt <| jq (pa Qe) ?_
 refine Qd <| rs <| rt <| jm ?_
 refine jm ?_
 refine jq (JS (ht rfl) (ht rfl)) ?_
 refine jq (Jo (k := .u64) (b := 64) rfl rfl (by kernel_rfl) (ht rfl) Qh) ?_
 obtain ⟨r1, e1, h⟩ := bs h
 refine jq (pc tl1 (QbR e1)) ?_
 refine jq (JS (ht rfl) Qe) ?_
 obtain ⟨e2, h⟩ := QS h
 refine jq (KR Qe (ht rfl) Qh e2) ?_
 refine ja ?_
 refine Qd <| rs <| rs <| rt <| jm ?_
 refine jq (Xt (ht rfl) Qe) ?_
 refine Qd <| Qn (ht rfl) (fun e3 => ?_) (fun e3 => ?_)
 ·replace h := bt e3 h
  refine rt <| jm ?_
  refine jm ?_
  refine jq (Jo (k := .u64) (b := 64) rfl rfl (by kernel_rfl) (ht rfl) Qh) ?_
  obtain ⟨r2, e4, h⟩ := bs h
  refine jq (pc tl1 (Wo hg3 hg4 e4)) ?_
  obtain ⟨e5, h⟩ := QS h
  refine jq (KR Qe (ht rfl) Qh e5) ?_
  obtain ⟨x1, e6, h⟩ := bs h
  refine jq (PJ.eqv (QjH (ht rfl) (ht rfl)) (oi e6)) ?_
  refine ja ?_
  refine Qd <| rs <| rt <| jm ?_
  refine ja ?_
  refine Qd ?_
  obtain rfl := oi h
  exact Qo fun a w hst => QL hst rfl (.tmp rfl) () (fun _ _ h => h) (.nil)
 ·replace h := bf e3 h
  refine Qm <| rs <| rt <| jm ?_
  refine ja ?_
  refine Qd ?_
  obtain rfl := oi h
  exact Qo fun a w hst => QL hst rfl (.tmp rfl) () (fun _ _ h => h) (.nil)
theorem UO {G : GP} (hg3 : HG3 G) (hg4 : HG4 G) {p_from : Int} {p_to : Int} {r : (List Int)} (h : ZG p_from p_to = some r) : Ctr Tryz.prog G 173 [i64.slot p_from, i64.slot p_to] [] (fun (u0 : Value) => ov u0) (fun (u0 : Value) => [own 3 i64 u0 r]) := by
 unfold ZG at h
 refine Qp Tryz.func173 rfl 25 rfl rfl fun m0 w0 b0 => ?_
 show Run _ _ _ [(0, i64.slot p_from), (1, i64.slot p_to)] _
 refine rs <| rt <| QN (T := 3) i64 rfl fun v1 => ?_
 refine Qd <| rs <| rs <| rt <| jm ?_
 refine jm ?_
 obtain ⟨r1, e1, h⟩ := bs h
 refine jq (pc tl2 (Wj e1)) ?_
 refine jq (ZI (ht rfl)) ?_
 refine Qd <| Qn (ht rfl) (fun e2 => ?_) (fun e2 => ?_)
 ·replace h := bt e2 h
  refine rs <| rt <| QN (T := 3) i64 rfl fun v2 => ?_
  refine Qd ?_
  obtain rfl := oi h
  exact Qo fun a w hst => QL hst rfl (.tmp rfl) v2 (fun _ _ h => h) .h1
 ·replace h := bf e2 h
  refine Qm <| rs <| rt <| QN (T := 3) i64 rfl fun v3 => ?_
  refine Qd <| rs ?_
  obtain ⟨⟨y3, y4⟩, e6, h⟩ := bs h
  refine Q2 (Γi := fun (i : Value) (s : Int × (List Int)) => [(0, i64.slot s.1), (1, i64.slot p_to), (5, ov i)]) (Hi := fun (i : Value) (s : Int × (List Int)) => [own 3 i64 i s.2]) e6 v3 (fun a w hst => (hst.sub .k3).keep .h1) ?_ ?_
  ·clear h e6
   rintro v4 ⟨y1, y2⟩ lr h
   change XK p_to y1 y2 = some _ at h
   show Run _ _ _ [(0, i64.slot y1), (1, i64.slot p_to), (5, ov v4)] [own 3 i64 v4 y2]
   unfold XK at h
   refine rs <| rs <| rt <| jm ?_
   refine jm ?_
   refine jq (Q7 (ht rfl) (ht rfl)) ?_
   refine Qd <| Qn (ht rfl) (fun e3 => ?_) (fun e3 => ?_)
   ·replace h := bt e3 h
    refine Qm <| QJ <| rs <| rt <| jm ?_
    refine jm ?_
    obtain ⟨r2, e4, h⟩ := bs h
    refine jq (pc tl2 (qR hg3 hg4 e4)) ?_
    refine ja ?_
    refine Qd <| rs <| rt <| jm ?_
    refine jm ?_
    refine jq (QT (T := 3) (R := i64) (.cons (ht rfl) .nil) rfl (by kernel_rfl) (by kernel_rfl)) ?_
    obtain ⟨e5, h⟩ := QS h
    refine JQ (T := 3) (E := 3) (ht rfl) .here (JE (ht rfl)) (by kernel_rfl) (by kernel_rfl) e5 rfl fun v5 => ?_
    refine ja ?_
    refine Qd <| rt <| jm ?_
    refine jm ?_
    refine jq (QW (ht rfl) (ht rfl)) ?_
    refine ja ?_
    refine Qd <| Qs ?_
    obtain rfl := oi h
    exact QZ v5 .k3 .h1
   ·replace h := bf e3 h
    obtain rfl := oi h
    exact Jf v4 .k3 .h1
  ·rintro v6
   show Run _ _ _ [(0, i64.slot y3), (1, i64.slot p_to), (5, ov v6)] [own 3 i64 v6 y4]
   refine Q9 (Γ' := [(5, ov v6)]) (H' := [own 3 i64 v6 y4]) .k1 .h1 ?_
   refine rs <| rt <| jm ?_
   refine ja ?_
   refine Qd ?_
   obtain rfl := oi h
   exact Qo fun a w hst => QL hst rfl (.tmp rfl) v6 (fun _ _ h => h) .h1
theorem KO {G : GP} (hg3 : HG3 G) (hg4 : HG4 G) {p_r : Qu} {r : Bool} (h : Y4 p_r = some r) : Ctr Tryz.prog G 172 [Qi.slot p_r] [] (fun (_ : Unit) => bl.slot r) (fun (_ : Unit) => []) := by
 unfold Y4 at h
 refine Qp Tryz.func172 rfl 20 rfl rfl fun m0 w0 b0 => ?_
 show Run _ _ _ [(0, Qi.slot p_r)] _
 refine rs <| rt <| jq (Q0 (ht rfl)) ?_
 refine jq (pa QU) ?_
 refine Qd <| rs ?_
 obtain ⟨r1, e1, h⟩ := bs h
 obtain ⟨y1, e3, h⟩ := bs h
 refine (ql (n := 17) (Γ' := [(19, bl.slot y1)]) (H' := []) ?_ fun J => ?_)
 ·clear e3
  refine ja ?_
  refine Qd ?_
  obtain rfl := oi h
  exact Qo fun a w hst => QL hst rfl (.tmp rfl) () (fun _ _ h => h) (.nil)
 ·rcases Jl (r1) with e2 | e2
  ·replace e3 := bt e2 e3
   obtain ⟨r2, e4, e3⟩ := bind_some e3
   exact rd (n := 17) (.p (pft (ht rfl) .f) <| .p (plt (ht rfl)) <| .p (pft (ht rfl) (.t .s .f)) <| .p (plt (ht rfl)) <| .p (pc tl2 (Wj e1)) <| .m rfl <| .read (.yes (gY e2) (pft (ht rfl) .f)) <| .read (.yes (gY e2) (plt (ht rfl))) <| .read (.yes (gY e2) (pft (ht rfl) (.t .s .f))) <| .read (.yes (gY e2) (plt (ht rfl))) <| .read (.yes (gY e2) (pc tl2 (Ctr.froze (UO hg3 hg4 e4)))) <| .read (.yes (gY e2) (QX (sz := 1) (ht rfl) (by kernel_rfl))) <| .read (.yes (gY e2) (pft (ht rfl) (.t .s .s))) <| .read (.yes (gY e2) (plt (ht rfl))) <| .read (.yes (gY e2) (QX (sz := 32) (ht rfl) (by kernel_rfl))) <| .read (.yes (gY e2) (ZJ (ht rfl) (ht rfl))) <| .p (pk1 e2 (ht rfl) (oi e3)) <| .nil) (Je (Γ' := [(19, bl.slot y1)]) (H' := []) .k1 (.nil) J)
  ·replace e3 := bf e2 e3
   exact rd (n := 17) (.p (pft (ht rfl) .f) <| .p (plt (ht rfl)) <| .p (pft (ht rfl) (.t .s .f)) <| .p (plt (ht rfl)) <| .p (pc tl2 (Wj e1)) <| .m rfl <| .read (.no (gN e2)) <| .read (.no (gN e2)) <| .read (.no (gN e2)) <| .read (.no (gN e2)) <| .read (.no (gN e2)) <| .read (.no (gN e2)) <| .read (.no (gN e2)) <| .read (.no (gN e2)) <| .read (.no (gN e2)) <| .read (.no (gN e2)) <| .p (pk2 e2 QU (oi e3)) <| .nil) (Je (Γ' := [(19, bl.slot y1)]) (H' := []) .k1 (.nil) J)
theorem Br {G : GP} (hg1 : HG1 G) (hg2 : HG2 G) {p_a : Qa} {p_b : Qa} {r : Qa} (h : Vz p_a p_b = some r) : Ctr Tryz.prog G 176 [Qb.slot p_a, Qb.slot p_b] [] (fun (_ : Unit) => Qb.slot r) (fun (_ : Unit) => []) := by
 unfold Vz at h
 refine Qp Tryz.func176 rfl 11 rfl rfl fun m0 w0 b0 => ?_
 show Run _ _ _ [(0, Qb.slot p_a), (1, Qb.slot p_b)] _
 refine rs <| rt <| jq (Q0 (ht rfl)) ?_
 refine jq (Q0 (ht rfl)) ?_
 refine al (x := (Vector.replicate 32 (0#8))) (R := Qb) (QA 32 QH) fun b1 => ?_
 refine Qd <| rs <| rd (n := 3) (.p (QT (T := 5) (R := u8) (.cons (QE (x := 1#8) rfl) .nil) rfl (by kernel_rfl) (by kernel_rfl)) <| .p (JA (ht rfl) (by decide) (by kernel_rfl)) <| .p (JA (ht rfl) (by decide) (by kernel_rfl)) <| .nil) (Je (Γ' := [(4, val (.pointer (some ⟨b1, 0, none⟩))), (5, (sl u8).slot ([1#8])), (6, (sl u8).slot p_a.toList), (7, (sl u8).slot p_b.toList)]) (H' := [box b1 23 Qb (Vector.replicate 32 (0#8))]) .k4 .h1 ?_)
 refine jq (QT (T := 31) (R := (sl u8)) (.cons (ht rfl) (.cons (ht rfl) (.cons (ht rfl) .nil))) rfl (by kernel_rfl) (by kernel_rfl)) ?_
 obtain ⟨r1, e1, h⟩ := bs h
 refine jq (pc tl1 (Ctr.froze (Xx e1))) ?_
 obtain ⟨r2, e2, h⟩ := bs h
 refine jq (pc tl1 (We hg1 hg2 e2)) ?_
 refine jk (r' := r2) (ht rfl) (ht rfl) .here .a ?_
 refine Qd ?_
 obtain rfl := oi h
 exact Qo fun a w hst => QL hst rfl (.cell rfl .here (by kernel_rfl)) () (fun _ _ h => h) (.nil)
theorem BA {G : GP} (hg1 : HG1 G) (hg2 : HG2 G) {p_s : List Qz} {p_p : Qz} {v_s : Value} {r : (List Qz)} (h : Xp p_s p_p = some r) : Ctr Tryz.prog G 174 [ov v_s, QK.slot p_p] [own 247 QK v_s p_s] (fun (u0 : Value) => ov u0) (fun (u0 : Value) => [own 247 QK u0 r]) := by
 unfold Xp at h
 refine Qp Tryz.func174 rfl 49 rfl rfl fun m0 w0 b0 => ?_
 show Run _ _ _ [(0, ov v_s), (1, QK.slot p_p)] _
 refine rs <| rt <| Bq (ht rfl) rfl fun b1 => ?_
 refine QN (T := 247) QK rfl fun v1 => ?_
 refine Qd <| rs ?_
 obtain ⟨⟨y4, y5⟩, e10, h⟩ := bs h
 refine Q2 (Γi := fun (i : Value) (s : Qz × (List Qz)) => [(0, ov i), (3, val (.pointer (some ⟨b1, 0, none⟩)))]) (Hi := fun (i : Value) (s : Qz × (List Qz)) => [box b1 247 QK s.1, own 247 QK i s.2]) e10 v_s (fun a w hst => (hst.sub .k2).keep (.cons (.next .here) <| .cons (.next .here) <| .nil)) ?_ ?_
 ·clear h e10
  rintro v2 ⟨y1, y2⟩ lr h
  change J1 y1 y2 = some _ at h
  show Run _ _ _ [(0, ov v2), (3, val (.pointer (some ⟨b1, 0, none⟩)))] [box b1 247 QK y1, own 247 QK v2 y2]
  unfold J1 at h
  refine rs <| rs <| rt <| jm ?_
  refine jq (YP (sz := 34) (ht rfl) (.next .here) (by kernel_rfl)) ?_
  refine jq (Xt (ht rfl) Qe) ?_
  refine Qd <| Qn (ht rfl) (fun e1 => ?_) (fun e1 => ?_)
  ·replace h := bt e1 h
   refine Qm <| QJ <| rs <| rt <| jm ?_
   refine jm ?_
   refine jq (YP (sz := 34) (ht rfl) (.next .here) (by kernel_rfl)) ?_
   refine jq (JS (ht rfl) Qe) ?_
   obtain ⟨x1, e2, h⟩ := bs h
   refine jq (J8 (ht rfl) (.next .here) (ht rfl) Qh (Q4 e2).1 (Q4 e2).2.1 (by kernel_rfl)) ?_
   refine jq (PJ.eqv (YW QK ((w64 ((y2.length : Int) - (1 : Int))).toNat) (ht rfl) (.next .here) (Q4 e2).2.1 (by kernel_rfl)) (Ul e2 (Q4 e2).2.1)) ?_
   refine al (x := (0, 0, (Vector.replicate 32 (0#8)))) (R := QK) (Qk Qx (Qk Qx (QA 32 QH))) fun b2 => ?_
   refine jk (r' := x1) (ht rfl) (ht rfl) .here .a ?_
   refine Jd (t := 5) .here (.of_lk rfl) ?_
   refine Qd <| rs <| rs <| rt <| jq (pft (ht rfl) (.t .s .f)) ?_
   refine jl ?_
   refine jq (pfp (off := 1) (ht rfl)) ?_
   refine jq (plb (ht rfl) .here (.t .a (.t .s .f))) ?_
   refine jq (YG (ht rfl) (ht rfl)) ?_
   refine jm ?_
   obtain ⟨y3, e4, h⟩ := bs h
   refine Jz (ι := Unit) (Γ' := fun _ => [(0, ov v2), (3, val (.pointer (some ⟨b1, 0, none⟩))), (5, Qt QK x1), (28, bl.slot y3)]) (H' := fun _ => [box b1 247 QK y1, own 247 QK v2 y2]) 8 ?_ fun J => ?_
   ·intro _
    clear e4
    show Jc _ _ _ [(0, ov v2), (3, val (.pointer (some ⟨b1, 0, none⟩))), (5, Qt QK x1), (28, bl.slot y3)] [box b1 247 QK y1, own 247 QK v2 y2] _
    refine Qd <| Qn (ht rfl) (fun e6 => ?_) (fun e6 => ?_)
    ·replace h := bt e6 h
     refine BX fun a w hst => ?_
     refine Qac rfl ?_
     obtain rfl := oi h
     exact ⟨rfl, v2, (hst.sub .k2).keep .h2⟩
    ·replace h := bf e6 h
     refine Qm <| rs ?_
     obtain ⟨r1, e7, h⟩ := bs h
     refine rd (n := 10) (.p (pft (ht rfl) .f) <| .p (plt (ht rfl)) <| .p (pft (ht rfl) (.t .s .f)) <| .p (plt (ht rfl)) <| .p (XJ Qe (ht rfl)) <| .p (pft (ht rfl) (.t .s .s)) <| .p (plt (ht rfl)) <| .p (pfp (off := 2) (ht rfl)) <| .p (plb (ht rfl) .here (.t .a (.t .s .s))) <| .p (pc tl2 (Br hg1 hg2 e7)) <| .nil) (Je (Γ' := [(0, ov v2), (3, val (.pointer (some ⟨b1, 0, none⟩))), (30, i64.slot x1.1), (33, i64.slot (w64 ((2 : Int) * x1.2.1))), (38, Qb.slot r1)]) (H' := [box b1 247 QK y1, own 247 QK v2 y2]) .k5 .h2 ?_)
     obtain ⟨x2, e8, h⟩ := bs h
     refine jq (PJ.eqv (JZ (R := QK) (Qk Qx (Qk Qx (QA 32 QH))) (by kernel_rfl) (by kernel_rfl) rfl (.cons (ht rfl) .f (by kernel_rfl) (.cons (ht rfl) (.t .s .f) (by kernel_rfl) (.cons (ht rfl) (.t .s .s) (by kernel_rfl) .nil)))) (oi e8)) ?_
     refine jk (r' := x2) (ht rfl) (ht rfl) .here .a ?_
     refine Qd <| rt <| jm ?_
     refine jm ?_
     refine jq (YP (sz := 34) (ht rfl) (.next .here) (by kernel_rfl)) ?_
     refine jq (JS (ht rfl) Qe) ?_
     obtain ⟨e9, h⟩ := QS h
     refine Qby (ht rfl) (.next .here) (ht rfl) Qh e9.1 e9.2 (by kernel_rfl) rfl fun v3 => ?_
     refine ja ?_
     refine Qd <| Qs ?_
     obtain rfl := oi h
     exact QZ v3 .k2 (.cons (.next .here) <| .cons .here <| .nil)
   ·rcases Jl (!decide (x1.2.1 = y1.2.1)) with e3 | e3
    ·replace e4 := bt e3 e4
     refine jN e3 ?_
     refine jN e3 ?_
     refine jN e3 ?_
     refine jN e3 ?_
     refine jN e3 ?_
     refine jN e3 ?_
     refine jN e3 ?_
     refine jq (pk1 e3 QU (oi e4)) ?_
     exact Je .k4 .h2 (J ())
    ·replace e4 := bf e3 e4
     refine jz (pft (ht rfl) .f) e3 ?_
     refine jz (plt (ht rfl)) e3 ?_
     refine jz (pft (ht rfl) (.t .s .f)) e3 ?_
     refine jz (plt (ht rfl)) e3 ?_
     refine jz (XJ Qe (ht rfl)) e3 ?_
     obtain ⟨e5, e4⟩ := QS e4
     refine jz (qn (ht rfl) (ht rfl) e5) e3 ?_
     refine jz (YG (ht rfl) Qe) e3 ?_
     refine jq (pk2 e3 (ht rfl) (oi e4)) ?_
     exact Je .k4 .h2 (J ())
  ·replace h := bf e1 h
   obtain rfl := oi h
   exact Jf v2 .k2 .h2
 ·rintro v4
  show Run _ _ _ [(0, ov v4), (3, val (.pointer (some ⟨b1, 0, none⟩)))] [box b1 247 QK y4, own 247 QK v4 y5]
  refine Q9 (Γ' := [(0, ov v4), (3, val (.pointer (some ⟨b1, 0, none⟩)))]) (H' := [box b1 247 QK y4, own 247 QK v4 y5]) .k2 .h2 ?_
  refine rs <| rt <| jm ?_
  refine jq (plb (ht rfl) .here .a) ?_
  refine jq (QT (T := 247) (R := QK) (.cons (ht rfl) .nil) rfl (by kernel_rfl) (by kernel_rfl)) ?_
  obtain ⟨e11, h⟩ := QS h
  refine JQ (T := 247) (E := 247) (ht rfl) (.next .here) (JE (ht rfl)) (by kernel_rfl) (by kernel_rfl) e11 rfl fun v5 => ?_
  refine ja ?_
  refine Qd ?_
  obtain rfl := oi h
  exact Qo fun a w hst => QL hst rfl (.tmp rfl) v5 (fun _ _ h => h) .h1
theorem WK {G : GP} {p_s : List Qz} {r : (List Qa)} (h : Z7 p_s = some r) : Ctr Tryz.prog G 175 [(sl QK).slot p_s] [] (fun (u0 : Value) => ov u0) (fun (u0 : Value) => [own 23 Qb u0 r]) := by
 unfold Z7 at h
 refine Qp Tryz.func175 rfl 19 rfl rfl fun m0 w0 b0 => ?_
 show Run _ _ _ [(0, (sl QK).slot p_s)] _
 refine rs <| rt <| QN (T := 23) Qb rfl fun v1 => ?_
 refine Qd <| rs <| rt <| QN (T := 23) Qb rfl fun v2 => ?_
 refine Qd <| rs <| rs <| rt <| jm ?_
 refine jq (QX (sz := 34) (ht rfl) (by kernel_rfl)) ?_
 refine jq (pm Qe) ?_
 refine Qd ?_
 obtain ⟨⟨y3, y4⟩, e4, h⟩ := bs h
 refine Q2 (Γi := fun (i : Value) (s : Int × (List Qa)) => [(3, ov i), (6, (sl QK).slot p_s), (7, i64.slot (p_s.length : Int)), (8, i64.slot s.1)]) (Hi := fun (i : Value) (s : Int × (List Qa)) => [own 23 Qb i s.2]) e4 v2 (fun a w hst => (hst.sub .k4).keep .h1) ?_ ?_
 ·clear h e4
  rintro v3 ⟨y1, y2⟩ lr h
  change Zv p_s y1 y2 = some _ at h
  show Run _ _ _ [(3, ov v3), (6, (sl QK).slot p_s), (7, i64.slot (p_s.length : Int)), (8, i64.slot y1)] [own 23 Qb v3 y2]
  unfold Zv at h
  refine rs <| rt <| jq (Q7 (ht rfl) (ht rfl)) ?_
  refine Qd <| rs <| Qn (ht rfl) (fun e1 => ?_) (fun e1 => ?_)
  ·replace h := bt e1 h
   refine Qm <| rs <| QJ <| rs <| rt ?_
   obtain ⟨x1, e2, h⟩ := bs h
   refine jq (pix (ht rfl) (ht rfl) Qh e2) ?_
   refine jl ?_
   refine al (x := (0, 0, (Vector.replicate 32 (0#8)))) (R := QK) (Qk Qx (Qk Qx (QA 32 QH))) fun b1 => ?_
   refine jk (r' := x1) (ht rfl) (ht rfl) .here .a ?_
   refine Jd (t := 5) .here (.of_lk rfl) ?_
   refine Qd <| rt <| jm ?_
   refine jq (pft (ht rfl) (.t .s .s)) ?_
   refine jl ?_
   refine jq (QT (T := 23) (R := Qb) (.cons (ht rfl) .nil) rfl (by kernel_rfl) (by kernel_rfl)) ?_
   obtain ⟨e3, h⟩ := QS h
   refine JQ (T := 23) (E := 23) (ht rfl) .here (JE (ht rfl)) (by kernel_rfl) (by kernel_rfl) e3 rfl fun v4 => ?_
   refine ja ?_
   refine Qd <| Qs <| rt <| jq (QW (ht rfl) Qe) ?_
   refine jm ?_
   refine Qd ?_
   obtain rfl := oi h
   exact QZ v4 .k4 .h1
  ·replace h := bf e1 h
   obtain rfl := oi h
   exact Jf v3 .k4 .h1
 ·rintro v5
  show Run _ _ _ [(3, ov v5), (6, (sl QK).slot p_s), (7, i64.slot (p_s.length : Int)), (8, i64.slot y3)] [own 23 Qb v5 y4]
  refine Q9 (Γ' := [(3, ov v5)]) (H' := [own 23 Qb v5 y4]) .k1 .h1 ?_
  refine rs <| rt <| jm ?_
  refine ja ?_
  refine Qd ?_
  obtain rfl := oi h
  exact Qo fun a w hst => QL hst rfl (.tmp rfl) v5 (fun _ _ h => h) .h1
theorem QbS {G : GP} (hg1 : HG1 G) (hg2 : HG2 G) (hg3 : HG3 G) (hg4 : HG4 G) {p_a : Qu} {p_b : Qu} {r : Qu × Int} (h : XV p_a p_b = some r) : Ctr Tryz.prog G 152 [Qi.slot p_a, Qi.slot p_b] [] (fun (_ : Unit) => tup [Qi.slot r.1, i64.slot r.2]) (fun (_ : Unit) => []) := by
 unfold XV at h
 refine Qp Tryz.func152 rfl 71 rfl rfl fun m0 w0 b0 => ?_
 show Run _ _ _ [(0, Qi.slot p_a), (1, Qi.slot p_b)] _
 refine rs <| rt <| jq (Q0 (ht rfl)) ?_
 refine jq (Q0 (ht rfl)) ?_
 refine al (x := (0, 0, ([] : List Qa))) (R := Qi) (Qk Qx (Qk Qx Jp)) fun b1 => ?_
 refine jq (pa Qe) ?_
 refine Qd <| rs <| rs <| rt <| jl ?_
 obtain ⟨r1, e1, h⟩ := bs h
 refine jq (pc tl1 (KO hg3 hg4 e1)) ?_
 refine jq (ZI (ht rfl)) ?_
 refine jm ?_
 obtain ⟨y1, e3, h⟩ := bs h
 refine Jz (ι := Unit) (Γ' := fun _ => [(2, Qt Qi p_a), (3, Qt Qi p_b), (4, val (.pointer (some ⟨b1, 0, none⟩))), (19, bl.slot y1)]) (H' := fun _ => [box b1 184 Qi (0, 0, ([] : List Qa))]) 4 ?_ fun J => ?_
 ·intro _
  clear e3
  show Jc _ _ _ [(2, Qt Qi p_a), (3, Qt Qi p_b), (4, val (.pointer (some ⟨b1, 0, none⟩))), (19, bl.slot y1)] [box b1 184 Qi (0, 0, ([] : List Qa))] _
  refine jm ?_
  obtain ⟨y2, e6, h⟩ := bs h
  refine Jz (ι := Unit) (Γ' := fun _ => [(2, Qt Qi p_a), (3, Qt Qi p_b), (4, val (.pointer (some ⟨b1, 0, none⟩))), (26, bl.slot y2)]) (H' := fun _ => [box b1 184 Qi (0, 0, ([] : List Qa))]) 6 ?_ fun J => ?_
  ·intro _
   clear e6
   show Jc _ _ _ [(2, Qt Qi p_a), (3, Qt Qi p_b), (4, val (.pointer (some ⟨b1, 0, none⟩))), (26, bl.slot y2)] [box b1 184 Qi (0, 0, ([] : List Qa))] _
   refine Qd <| Qn (ht rfl) (fun e7 => ?_) (fun e7 => ?_)
   ·replace h := bt e7 h
    refine rs <| rt <| jq (JZ (R := Qi) (Qk Qx (Qk Qx Jp)) (by kernel_rfl) (by kernel_rfl) rfl .nil) ?_
    refine jk (r' := (0, 0, ([] : List Qa))) (ht rfl) (ht rfl) .here .a ?_
    refine jq (pa Qe) ?_
    refine Qd ?_
    obtain rfl := oi h
    exact Qo fun a w hst => JV hst rfl (.cons (.cell rfl .here (by kernel_rfl)) <| .cons (.tmp rfl) <| .nil) rfl () (fun _ _ h => h) (.nil)
   ·replace h := bf e7 h
    refine Qm <| rs <| rt <| QN (T := 247) QK rfl fun v1 => ?_
    refine Qd <| rs <| rs <| rt <| jl ?_
    refine jl ?_
    refine jq (QT (T := 184) (R := Qi) (.cons (ht rfl) (.cons (ht rfl) .nil)) rfl (by kernel_rfl) (by kernel_rfl)) ?_
    refine jq (QX (sz := 3) (ht rfl) (by kernel_rfl)) ?_
    refine jq (pm Qe) ?_
    refine Qd ?_
    obtain ⟨⟨y11, y12⟩, e17, h⟩ := bs h
    refine Q2 (Γi := fun (i : Value) (s : Int × (List Qz)) => [(2, Qt Qi p_a), (3, Qt Qi p_b), (4, val (.pointer (some ⟨b1, 0, none⟩))), (6, ov i), (30, (sl Qi).slot ([p_a, p_b])), (31, i64.slot (([p_a, p_b]).length : Int)), (32, i64.slot s.1)]) (Hi := fun (i : Value) (s : Int × (List Qz)) => [own 247 QK i s.2, box b1 184 Qi (0, 0, ([] : List Qa))]) e17 v1 (fun a w hst => (hst.sub .k7).keep .h2) ?_ ?_
    ·clear h e17
     rintro v2 ⟨y3, y4⟩ lr h
     change ZS p_a p_b y3 y4 = some _ at h
     show Run _ _ _ [(2, Qt Qi p_a), (3, Qt Qi p_b), (4, val (.pointer (some ⟨b1, 0, none⟩))), (6, ov v2), (30, (sl Qi).slot ([p_a, p_b])), (31, i64.slot (([p_a, p_b]).length : Int)), (32, i64.slot y3)] [own 247 QK v2 y4, box b1 184 Qi (0, 0, ([] : List Qa))]
     unfold ZS at h
     refine rs <| rt <| jq (Q7 (ht rfl) (ht rfl)) ?_
     refine Qd <| rs <| Qn (ht rfl) (fun e8 => ?_) (fun e8 => ?_)
     ·replace h := bt e8 h
      refine Qm <| rs <| QJ <| rs <| rt ?_
      obtain ⟨x1, e9, h⟩ := bs h
      refine jq (pix (ht rfl) (ht rfl) Qh e9) ?_
      refine jl ?_
      refine al (x := (0, 0, ([] : List Qa))) (R := Qi) (Qk Qx (Qk Qx Jp)) fun b2 => ?_
      refine jk (r' := x1) (ht rfl) (ht rfl) .here .a ?_
      refine Jd (t := 8) .here (.of_lk rfl) ?_
      refine Qd <| rs <| rt <| jq (pft (ht rfl) .f) ?_
      refine jl ?_
      refine ja ?_
      refine Qd <| rs <| rt <| jq (pft (ht rfl) .f) ?_
      refine jl ?_
      refine jq (pft (ht rfl) (.t .s .f)) ?_
      refine jl ?_
      obtain ⟨r3, e10, h⟩ := bs h
      refine jq (pc tl2 (Ctr.froze (UO hg3 hg4 e10))) ?_
      refine jq (QX (sz := 1) (ht rfl) (by kernel_rfl)) ?_
      refine jq (pm Qe) ?_
      refine Qd ?_
      obtain ⟨⟨y8, y9, y10⟩, e16, h⟩ := bs h
      refine Q2 (Γi := fun (i : Value) (s : Int × Int × (List Qz)) => [(2, Qt Qi p_a), (3, Qt Qi p_b), (4, val (.pointer (some ⟨b1, 0, none⟩))), (6, ov i), (8, Qt Qi x1), (9, i64.slot s.1), (30, (sl Qi).slot ([p_a, p_b])), (31, i64.slot (([p_a, p_b]).length : Int)), (32, i64.slot y3), (42, (sl i64).slot r3), (43, i64.slot (r3.length : Int)), (44, i64.slot s.2.1)]) (Hi := fun (i : Value) (s : Int × Int × (List Qz)) => [own 247 QK i s.2.2, box b1 184 Qi (0, 0, ([] : List Qa))]) e16 v2 (fun a w hst => (hst.sub .k12).keep .h2) ?_ ?_
      ·clear h e16
       rintro v3 ⟨y5, y6, y7⟩ lr h
       change Zx r3 x1 y5 y6 y7 = some _ at h
       show Run _ _ _ [(2, Qt Qi p_a), (3, Qt Qi p_b), (4, val (.pointer (some ⟨b1, 0, none⟩))), (6, ov v3), (8, Qt Qi x1), (9, i64.slot y5), (30, (sl Qi).slot ([p_a, p_b])), (31, i64.slot (([p_a, p_b]).length : Int)), (32, i64.slot y3), (42, (sl i64).slot r3), (43, i64.slot (r3.length : Int)), (44, i64.slot y6)] [own 247 QK v3 y7, box b1 184 Qi (0, 0, ([] : List Qa))]
       unfold Zx at h
       refine rs <| rt <| jq (Q7 (ht rfl) (ht rfl)) ?_
       refine Qd <| rs <| Qn (ht rfl) (fun e11 => ?_) (fun e11 => ?_)
       ·replace h := bt e11 h
        refine Qm <| rs <| QJ <| rs <| rt <| jm ?_
        obtain ⟨x2, e12, h⟩ := bs h
        refine jq (pix (ht rfl) (ht rfl) Qh e12) ?_
        refine jl ?_
        refine ja ?_
        refine ja ?_
        refine Qd <| rs <| rt <| jm ?_
        refine jm ?_
        refine jm ?_
        refine jq (pft (ht rfl) (.t .s .s)) ?_
        refine jl ?_
        refine jm ?_
        obtain ⟨x3, e13, h⟩ := bs h
        refine jq (pix (ht rfl) (ht rfl) Qh e13) ?_
        refine jl ?_
        obtain ⟨x4, e14, h⟩ := bs h
        refine jq (PJ.eqv (JZ (R := QK) (Qk Qx (Qk Qx (QA 32 QH))) (by kernel_rfl) (by kernel_rfl) rfl (.cons (ht rfl) .f (by kernel_rfl) (.cons (ht rfl) (.t .s .f) (by kernel_rfl) (.cons (ht rfl) (.t .s .s) (by kernel_rfl) .nil)))) (oi e14)) ?_
        obtain ⟨r4, e15, h⟩ := bs h
        refine jc tl2 (BA hg1 hg2 e15) .h1 fun v4 => ?_
        refine ja ?_
        refine Qd <| rt <| jm ?_
        refine jm ?_
        refine jq (QW (ht rfl) (ht rfl)) ?_
        refine ja ?_
        refine Qd <| Qs <| rt <| jq (QW (ht rfl) Qe) ?_
        refine jm ?_
        refine Qd ?_
        obtain rfl := oi h
        exact QZ v4 .k12 .h2
       ·replace h := bf e11 h
        obtain rfl := oi h
        exact Jf v3 .k12 .h2
      ·rintro v5
       show Run _ _ _ [(2, Qt Qi p_a), (3, Qt Qi p_b), (4, val (.pointer (some ⟨b1, 0, none⟩))), (6, ov v5), (8, Qt Qi x1), (9, i64.slot y8), (30, (sl Qi).slot ([p_a, p_b])), (31, i64.slot (([p_a, p_b]).length : Int)), (32, i64.slot y3), (42, (sl i64).slot r3), (43, i64.slot (r3.length : Int)), (44, i64.slot y9)] [own 247 QK v5 y10, box b1 184 Qi (0, 0, ([] : List Qa))]
       refine Q9 (Γ' := [(2, Qt Qi p_a), (3, Qt Qi p_b), (4, val (.pointer (some ⟨b1, 0, none⟩))), (6, ov v5), (30, (sl Qi).slot ([p_a, p_b])), (31, i64.slot (([p_a, p_b]).length : Int)), (32, i64.slot y3)]) (H' := [own 247 QK v5 y10, box b1 184 Qi (0, 0, ([] : List Qa))]) .k7 .h2 ?_
       refine Qs <| rt <| jq (QW (ht rfl) Qe) ?_
       refine jm ?_
       refine Qd ?_
       obtain rfl := oi h
       exact QZ v5 .k7 .h2
     ·replace h := bf e8 h
      obtain rfl := oi h
      exact Jf v2 .k7 .h2
    ·rintro v6
     show Run _ _ _ [(2, Qt Qi p_a), (3, Qt Qi p_b), (4, val (.pointer (some ⟨b1, 0, none⟩))), (6, ov v6), (30, (sl Qi).slot ([p_a, p_b])), (31, i64.slot (([p_a, p_b]).length : Int)), (32, i64.slot y11)] [own 247 QK v6 y12, box b1 184 Qi (0, 0, ([] : List Qa))]
     refine Q9 (Γ' := [(2, Qt Qi p_a), (3, Qt Qi p_b), (4, val (.pointer (some ⟨b1, 0, none⟩))), (6, ov v6)]) (H' := [own 247 QK v6 y12, box b1 184 Qi (0, 0, ([] : List Qa))]) .k4 .h2 ?_
     refine rs ?_
     obtain ⟨r5, e18, h⟩ := bs h
     refine rd (n := 6) (.p (pft (ht rfl) .f) <| .p (plt (ht rfl)) <| .p (pft (ht rfl) (.t .s .f)) <| .p (plt (ht rfl)) <| .m rfl <| .p (QdG (Q1 (VO (ht rfl) .here) <| Zj) (by kernel_rfl) (WK e18) (X9 _ (V9 _ _))) <| .nil) (Je (Γ' := [(4, val (.pointer (some ⟨b1, 0, none⟩))), (65, i64.slot p_a.1), (67, i64.slot p_b.2.1), (69, (sl Qb).slot r5)]) (H' := [box b1 184 Qi (0, 0, ([] : List Qa))]) .k4 (.cons (.next .here) <| .nil) ?_)
     obtain ⟨x5, e19, h⟩ := bs h
     refine jq (PJ.eqv (JZ (R := Qi) (Qk Qx (Qk Qx Jp)) (by kernel_rfl) (by kernel_rfl) rfl (.cons (ht rfl) .f (by kernel_rfl) (.cons (ht rfl) (.t .s .f) (by kernel_rfl) (.cons (ht rfl) (.t .s .s) (by kernel_rfl) .nil)))) (oi e19)) ?_
     refine jk (r' := x5) (ht rfl) (ht rfl) .here .a ?_
     refine jq (pa Qe) ?_
     refine Qd ?_
     obtain rfl := oi h
     exact Qo fun a w hst => JV hst rfl (.cons (.cell rfl .here (by kernel_rfl)) <| .cons (.tmp rfl) <| .nil) rfl () (fun _ _ h => h) (.nil)
  ·rcases Jl (y1) with e5 | e5
   ·replace e6 := bt e5 e6
    refine jN e5 ?_
    refine jN e5 ?_
    refine jN e5 ?_
    refine jN e5 ?_
    refine jN e5 ?_
    refine jq (pk1 e5 QU (oi e6)) ?_
    exact Je .k4 .h1 (J ())
   ·replace e6 := bf e5 e6
    refine jz (pft (ht rfl) (.t .s .f)) e5 ?_
    refine jz (plt (ht rfl)) e5 ?_
    refine jz (pft (ht rfl) .f) e5 ?_
    refine jz (plt (ht rfl)) e5 ?_
    refine jz (YG (ht rfl) (ht rfl)) e5 ?_
    refine jq (pk2 e5 (ht rfl) (oi e6)) ?_
    exact Je .k4 .h1 (J ())
 ·rcases Jl (!r1) with e2 | e2
  ·replace e3 := bt e2 e3
   refine jN e2 ?_
   refine jN e2 ?_
   refine jN e2 ?_
   refine jq (pk1 e2 QU (oi e3)) ?_
   exact Je .k4 .h1 (J ())
  ·replace e3 := bf e2 e3
   refine jz (plt (ht rfl)) e2 ?_
   obtain ⟨r2, e4, e3⟩ := bind_some e3
   refine jz (pc tl1 (KO hg3 hg4 e4)) e2 ?_
   refine jz (ZI (ht rfl)) e2 ?_
   refine jq (pk2 e2 (ht rfl) (oi e3)) ?_
   exact Je .k4 .h1 (J ())
theorem QbM {G : GP} (hg1 : HG1 G) (hg2 : HG2 G) (hg3 : HG3 G) (hg4 : HG4 G) {p_r : Qu} {r : Qa × Int} (h : Ke p_r = some r) : Ctr Tryz.prog G 153 [Qi.slot p_r] [] (fun (_ : Unit) => tup [Qb.slot r.1, i64.slot r.2]) (fun (_ : Unit) => []) := by
 unfold Ke at h
 refine Qp Tryz.func153 rfl 42 rfl rfl fun m0 w0 b0 => ?_
 show Run _ _ _ [(0, Qi.slot p_r)] _
 refine rs <| rt <| jq (Q0 (ht rfl)) ?_
 refine al (x := (Vector.replicate 32 (0#8))) (R := Qb) (QA 32 QH) fun b1 => ?_
 refine jq (pa Qe) ?_
 refine Qd <| rs <| rs <| rt <| jl ?_
 obtain ⟨r1, e1, h⟩ := bs h
 refine jq (pc tl1 (KO hg3 hg4 e1)) ?_
 refine jq (ZI (ht rfl)) ?_
 refine jm ?_
 obtain ⟨y1, e3, h⟩ := bs h
 refine Jz (ι := Unit) (Γ' := fun _ => [(1, Qt Qi p_r), (2, val (.pointer (some ⟨b1, 0, none⟩))), (14, bl.slot y1)]) (H' := fun _ => [box b1 23 Qb (Vector.replicate 32 (0#8))]) 4 ?_ fun J => ?_
 ·intro _
  clear e3
  show Jc _ _ _ [(1, Qt Qi p_r), (2, val (.pointer (some ⟨b1, 0, none⟩))), (14, bl.slot y1)] [box b1 23 Qb (Vector.replicate 32 (0#8))] _
  refine Qd <| Qn (ht rfl) (fun e4 => ?_) (fun e4 => ?_)
  ·replace h := bt e4 h
   refine rs <| rt <| jq (JZ (R := Qb) (QA 32 QH) (by kernel_rfl) (by kernel_rfl) rfl .nil) ?_
   refine jk (r' := (Vector.replicate 32 (0#8))) (ht rfl) (ht rfl) .here .a ?_
   refine jq (pa Qe) ?_
   refine Qd ?_
   obtain rfl := oi h
   exact Qo fun a w hst => JV hst rfl (.cons (.cell rfl .here (by kernel_rfl)) <| .cons (.tmp rfl) <| .nil) rfl () (fun _ _ h => h) (.nil)
  ·replace h := bf e4 h
   refine Qm <| rs <| rt <| jq (pft (ht rfl) (.t .s .s)) ?_
   refine jl ?_
   refine jq (QX (sz := 32) (ht rfl) (by kernel_rfl)) ?_
   refine ja ?_
   refine Qd <| rs <| rs <| rt <| jm ?_
   refine jq (ZJ (ht rfl) Qe) ?_
   refine Qd <| Qn (ht rfl) (fun e5 => ?_) (fun e5 => ?_)
   ·replace h := bt e5 h
    refine rs <| rt ?_
    obtain ⟨r2, e6, h⟩ := bs h
    refine jq (pc (hc (Bl (R := u8)) <| Q3) (We hg1 hg2 e6)) ?_
    refine jk (r' := r2) (ht rfl) (ht rfl) .here .a ?_
    refine jq (pa Qe) ?_
    refine Qd ?_
    obtain rfl := oi h
    exact Qo fun a w hst => JV hst rfl (.cons (.cell rfl .here (by kernel_rfl)) <| .cons (.tmp rfl) <| .nil) rfl () (fun _ _ h => h) (.nil)
   ·replace h := bf e5 h
    refine Qm <| rs <| rt <| jq (pft (ht rfl) (.t .s .s)) ?_
    refine jl ?_
    refine jm ?_
    refine jq (JS (ht rfl) Qe) ?_
    obtain ⟨x1, e7, h⟩ := bs h
    refine jq (pix (ht rfl) (ht rfl) Qh e7) ?_
    refine jl ?_
    refine al (x := (Vector.replicate 32 (0#8))) (R := Qb) (QA 32 QH) fun b2 => ?_
    refine jk (r' := x1) (ht rfl) (ht rfl) .here .a ?_
    refine Qd <| rs <| rs <| rt <| jm ?_
    refine jq (JS (ht rfl) Qe) ?_
    refine ja ?_
    refine Qd ?_
    obtain ⟨⟨y4, y5⟩, e11, h⟩ := bs h
    refine Q2 (Γi := fun (i : Unit) (s : Int × Qa) => [(1, Qt Qi p_r), (2, val (.pointer (some ⟨b1, 0, none⟩))), (5, val (.pointer (some ⟨b2, 0, none⟩))), (6, i64.slot s.1)]) (Hi := fun (i : Unit) (s : Int × Qa) => [box b2 23 Qb s.2, box b1 23 Qb (Vector.replicate 32 (0#8))]) e11 () (fun a w hst => (hst.sub .k4).keep .h2) ?_ ?_
    ·clear h e11
     rintro _ ⟨y2, y3⟩ lr h
     change Xk p_r y2 y3 = some _ at h
     show Run _ _ _ [(1, Qt Qi p_r), (2, val (.pointer (some ⟨b1, 0, none⟩))), (5, val (.pointer (some ⟨b2, 0, none⟩))), (6, i64.slot y2)] [box b2 23 Qb y3, box b1 23 Qb (Vector.replicate 32 (0#8))]
     unfold Xk at h
     refine rs <| rs <| rt <| jm ?_
     refine jq (XF (ht rfl) Qe) ?_
     refine Qd <| Qn (ht rfl) (fun e8 => ?_) (fun e8 => ?_)
     ·replace h := bt e8 h
      refine Qm <| rs <| QJ ?_
      obtain ⟨x2, e9, h⟩ := bs h
      refine rd (n := 6) (.p (pft (ht rfl) (.t .s .s)) <| .p (plt (ht rfl)) <| .m rfl <| .p (pix (ht rfl) (ht rfl) Qh e9) <| .p (plt (ht rfl)) <| .p (plb (ht rfl) .here .a) <| .nil) (Je (Γ' := [(1, Qt Qi p_r), (2, val (.pointer (some ⟨b1, 0, none⟩))), (5, val (.pointer (some ⟨b2, 0, none⟩))), (6, i64.slot y2), (38, Qb.slot x2), (39, Qb.slot y3)]) (H' := [box b2 23 Qb y3, box b1 23 Qb (Vector.replicate 32 (0#8))]) .k6 .h2 ?_)
      obtain ⟨r3, e10, h⟩ := bs h
      refine jq (pc tl2 (Br hg1 hg2 e10)) ?_
      refine jk (r' := r3) (ht rfl) (ht rfl) .here .a ?_
      refine Qd <| Qs <| rt <| jm ?_
      refine jq (JS (ht rfl) Qe) ?_
      refine ja ?_
      refine Qd ?_
      obtain rfl := oi h
      exact QZ () .k4 .h2
     ·replace h := bf e8 h
      obtain rfl := oi h
      exact Jf () .k4 .h2
    ·rintro _
     show Run _ _ _ [(1, Qt Qi p_r), (2, val (.pointer (some ⟨b1, 0, none⟩))), (5, val (.pointer (some ⟨b2, 0, none⟩))), (6, i64.slot y4)] [box b2 23 Qb y5, box b1 23 Qb (Vector.replicate 32 (0#8))]
     refine Q9 (Γ' := [(2, val (.pointer (some ⟨b1, 0, none⟩))), (5, val (.pointer (some ⟨b2, 0, none⟩)))]) (H' := [box b2 23 Qb y5, box b1 23 Qb (Vector.replicate 32 (0#8))]) .k2 .h2 ?_
     refine rs <| rt <| jq (plb (ht rfl) .here .a) ?_
     refine jk (r' := y5) (ht rfl) (ht rfl) (.next .here) .a ?_
     refine jq (pa Qe) ?_
     refine Qd ?_
     obtain rfl := oi h
     exact Qo fun a w hst => JV hst rfl (.cons (.cell rfl .here (by kernel_rfl)) <| .cons (.tmp rfl) <| .nil) rfl () (fun _ _ h => h) (.nil)
 ·rcases Jl (!r1) with e2 | e2
  ·replace e3 := bt e2 e3
   refine jN e2 ?_
   refine jN e2 ?_
   refine jN e2 ?_
   refine jq (pk1 e2 QU (oi e3)) ?_
   exact Je .k3 .h1 (J ())
  ·replace e3 := bf e2 e3
   refine jz (pft (ht rfl) .f) e2 ?_
   refine jz (plt (ht rfl)) e2 ?_
   refine jz (YG (ht rfl) Qe) e2 ?_
   refine jq (pk2 e2 (ht rfl) (oi e3)) ?_
   exact Je .k3 .h1 (J ())
theorem BO {G : GP} (hg1 : HG1 G) (hg2 : HG2 G) (hg3 : HG3 G) (hg4 : HG4 G) {p_root : Qa} {p_l : List Qu} {r : Bool} (h : XQ p_root p_l = some r) : Ctr Tryz.prog G 111 [Qb.slot p_root, (sl Qi).slot p_l] [] (fun (_ : Unit) => bl.slot r) (fun (_ : Unit) => []) := by
 unfold XQ at h
 refine Qp Tryz.func111 rfl 44 rfl rfl fun m0 w0 b0 => ?_
 refine Wa fun Qf hq1 hq2 => ?_
 show Run _ _ _ [(0, Qb.slot p_root), (1, (sl Qi).slot p_l)] _
 refine rs <| rt <| jq (Q0 (ht rfl)) ?_
 refine jq (pa QU) ?_
 refine Qd <| rs <| rt <| jm ?_
 obtain ⟨x1, e1, h⟩ := bs h
 refine jq (pix (ht rfl) Qe Qh e1) ?_
 refine jl ?_
 refine al (x := (0, 0, ([] : List Qa))) (R := Qi) (Qk Qx (Qk Qx Jp)) fun b1 => ?_
 refine jk (r' := x1) (ht rfl) (ht rfl) .here .a ?_
 refine Qd <| rs <| rs <| rt <| jm ?_
 obtain ⟨x2, e2, h⟩ := bs h
 refine jq (ZH (ht rfl) (.yes Qe Qh) .no e2 (by kernel_rfl)) ?_
 refine jq (QX (sz := 3) (ht rfl) (by kernel_rfl)) ?_
 refine jq (pm Qe) ?_
 refine Qd ?_
 obtain ⟨o, e7, h⟩ := bs h
 refine VZ (Γi := fun (i : Unit) (s : Int × Qu) => [(2, Qt Qb p_root), (5, val (.pointer (some ⟨b1, 0, none⟩))), (16, (sl Qi).slot x2), (17, i64.slot (x2.length : Int)), (18, i64.slot s.1)]) (Hi := fun (i : Unit) (s : Int × Qu) => [box b1 184 Qi s.2]) (R := fun x a w => x = r → Qf a w) e7 () (fun a w hst => (hst.sub .k5).keep .h1) ?_ ?_ ?_
 ·clear h e7
  rintro _ ⟨y1, y2⟩ lr h
  change JL x2 y1 y2 = some _ at h
  show Run _ _ _ [(2, Qt Qb p_root), (5, val (.pointer (some ⟨b1, 0, none⟩))), (16, (sl Qi).slot x2), (17, i64.slot (x2.length : Int)), (18, i64.slot y1)] [box b1 184 Qi y2]
  unfold JL at h
  refine rs <| rt <| jq (Q7 (ht rfl) (ht rfl)) ?_
  refine Qd <| rs <| Qn (ht rfl) (fun e3 => ?_) (fun e3 => ?_)
  ·replace h := bt e3 h
   refine Qm <| rs <| QJ <| rs <| rt ?_
   obtain ⟨x3, e4, h⟩ := bs h
   refine jq (pix (ht rfl) (ht rfl) Qh e4) ?_
   refine jl ?_
   refine al (x := (0, 0, ([] : List Qa))) (R := Qi) (Qk Qx (Qk Qx Jp)) fun b2 => ?_
   refine jk (r' := x3) (ht rfl) (ht rfl) .here .a ?_
   refine Jd (t := 7) .here (.of_lk rfl) ?_
   refine Qd <| rs <| rt <| jq (plb (ht rfl) .here .a) ?_
   refine jl ?_
   obtain ⟨r1, e5, h⟩ := bs h
   refine jq (pc tl2 (QbS hg1 hg2 hg3 hg4 e5)) ?_
   refine jm ?_
   refine jx ?_
   refine jx ?_
   refine al (x := (0, 0, ([] : List Qa))) (R := Qi) (Qk Qx (Qk Qx Jp)) fun b3 => ?_
   refine jk (r' := r1.1) (ht rfl) (ht rfl) .here .a ?_
   refine Jd (t := 8) .here (.of_lk rfl) ?_
   refine ja ?_
   refine Qd <| rs <| rs <| rt <| jm ?_
   refine jq (YG (ht rfl) Qe) ?_
   refine Qd <| Qn (ht rfl) (fun e6 => ?_) (fun e6 => ?_)
   ·replace h := bt e6 h
    refine rs <| rt <| jq (pa QU) ?_
    refine Qd ?_
    obtain rfl := oi h
    refine Qo fun a w hst => ⟨rfl, fun hr => ?_⟩
    subst hr
    exact hq2 a w (QL hst rfl (.tmp rfl) () (fun _ _ h => h) (.nil))
   ·replace h := bf e6 h
    refine Qm <| rt <| jl ?_
    refine jk (r' := r1.1) (ht rfl) (ht rfl) .here .a ?_
    refine Qd <| Qs <| rt <| jq (QW (ht rfl) Qe) ?_
    refine jm ?_
    refine Qd ?_
    obtain rfl := oi h
    exact QZ () .k5 .h1
  ·replace h := bf e3 h
   obtain rfl := oi h
   exact Jf () .k5 .h1
 ·rintro _ ⟨y3, y4⟩ ho
  subst ho
  show Run _ _ _ [(2, Qt Qb p_root), (5, val (.pointer (some ⟨b1, 0, none⟩))), (16, (sl Qi).slot x2), (17, i64.slot (x2.length : Int)), (18, i64.slot y3)] [box b1 184 Qi y4]
  refine Q9 (Γ' := [(2, Qt Qb p_root), (5, val (.pointer (some ⟨b1, 0, none⟩)))]) (H' := [box b1 184 Qi y4]) .k2 .h1 ?_
  refine rs <| rt <| jq (plb (ht rfl) .here .a) ?_
  obtain ⟨r2, e8, h⟩ := bs h
  refine jq (pc tl1 (QbM hg1 hg2 hg3 hg4 e8)) ?_
  refine jm ?_
  refine jx ?_
  refine jx ?_
  refine al (x := (Vector.replicate 32 (0#8))) (R := Qb) (QA 32 QH) fun b4 => ?_
  refine jk (r' := r2.1) (ht rfl) (ht rfl) .here .a ?_
  refine Jd (t := 10) .here (.of_lk rfl) ?_
  refine ja ?_
  refine Qd <| rs <| rt <| jm ?_
  refine jq (ZJ (ht rfl) Qe) ?_
  refine jm ?_
  obtain ⟨y5, e10, h⟩ := bs h
  refine Jz (ι := Unit) (Γ' := fun _ => [(43, bl.slot y5)]) (H' := fun _ => []) 4 ?_ fun J => ?_
  ·intro _
   clear e10
   show Jc _ _ _ [(43, bl.slot y5)] [] _
   refine ja ?_
   refine Qd ?_
   obtain rfl := oi h
   exact Qo fun a w hst => QL hst rfl (.tmp rfl) () (fun _ _ h => h) (.nil)
  ·rcases Jl (decide (r2.2 = (0 : Int))) with e9 | e9
   ·replace e10 := bt e9 e10
    refine jz (plt (ht rfl)) e9 ?_
    refine jz (plt (ht rfl)) e9 ?_
    refine jz (Qgz (n := 2) (QfX (e := 5) (by kernel_rfl) (by kernel_rfl) (QiC (by kernel_rfl))) (by decide) rfl (by kernel_rfl) (ht rfl) (ht rfl)) e9 ?_
    refine jq (pk1 e9 (ht rfl) (oi e10)) ?_
    exact Je .k1 (.nil) (J ())
   ·replace e10 := bf e9 e10
    refine jn e9 ?_
    refine jn e9 ?_
    refine jn e9 ?_
    refine jq (pk2 e9 QU (oi e10)) ?_
    exact Je .k1 (.nil) (J ())
 ·intro x a w ho hR
  subst ho
  exact hq1 a w (hR (oi h))
theorem Qa5 {G : GP} (hg1 : HG1 G) (hg2 : HG2 G) (hg3 : HG3 G) (hg4 : HG4 G) {p_t : YS} {p_m : Int} {p_n : Int} {p_old : Qa} {p_root : Qa} {r : Bool} (h : VR p_t p_m p_n p_old p_root = some r) : Ctr Tryz.prog G 64 [Za.slot p_t, i64.slot p_m, i64.slot p_n, Qb.slot p_old, Qb.slot p_root] [] (fun (_ : Unit) => bl.slot r) (fun (_ : Unit) => []) := by
 unfold VR at h
 refine Qp Tryz.func64 rfl 44 rfl rfl fun m0 w0 b0 => ?_
 show Run _ _ _ [(0, Za.slot p_t), (1, i64.slot p_m), (2, i64.slot p_n), (3, Qb.slot p_old), (4, Qb.slot p_root)] _
 refine rs <| rt <| jq (Q0 (ht rfl)) ?_
 refine jq (Q0 (ht rfl)) ?_
 refine jq (Q0 (ht rfl)) ?_
 refine jq (pa QU) ?_
 refine Qd <| rs <| rs <| rt <| jm ?_
 refine jq (Q7 (ht rfl) Qe) ?_
 refine jm ?_
 obtain ⟨y1, e2, h⟩ := bs h
 refine Jz (ι := Unit) (Γ' := fun _ => [(1, i64.slot p_m), (2, i64.slot p_n), (5, Qt Za p_t), (8, Qt Qb p_old), (9, Qt Qb p_root), (19, bl.slot y1)]) (H' := fun _ => []) 4 ?_ fun J => ?_
 ·intro _
  clear e2
  show Jc _ _ _ [(1, i64.slot p_m), (2, i64.slot p_n), (5, Qt Za p_t), (8, Qt Qb p_old), (9, Qt Qb p_root), (19, bl.slot y1)] [] _
  refine jm ?_
  obtain ⟨y2, e4, h⟩ := bs h
  refine Jz (ι := Unit) (Γ' := fun _ => [(1, i64.slot p_m), (2, i64.slot p_n), (5, Qt Za p_t), (8, Qt Qb p_old), (9, Qt Qb p_root), (23, bl.slot y2)]) (H' := fun _ => []) 3 ?_ fun J => ?_
  ·intro _
   clear e4
   show Jc _ _ _ [(1, i64.slot p_m), (2, i64.slot p_n), (5, Qt Za p_t), (8, Qt Qb p_old), (9, Qt Qb p_root), (23, bl.slot y2)] [] _
   refine Qd <| Qn (ht rfl) (fun e5 => ?_) (fun e5 => ?_)
   ·replace h := bt e5 h
    refine rs <| rt <| jq (pa QU) ?_
    refine Qd ?_
    obtain rfl := oi h
    exact Qo fun a w hst => QL hst rfl (.tmp rfl) () (fun _ _ h => h) (.nil)
   ·replace h := bf e5 h
    refine Qm <| rs <| rt <| jm ?_
    refine jq (pft (ht rfl) .f) ?_
    refine jl ?_
    obtain ⟨x1, e6, h⟩ := bs h
    refine jq (PJ.eqv (JZ (R := Qi) (Qk Qx (Qk Qx Jp)) (by kernel_rfl) (by kernel_rfl) rfl (.cons (ht rfl) (.t .s .f) (by kernel_rfl) (.cons (ht rfl) (.t .s .s) (by kernel_rfl) .nil))) (oi e6)) ?_
    refine al (x := (0, 0, ([] : List Qa))) (R := Qi) (Qk Qx (Qk Qx Jp)) fun b1 => ?_
    refine jk (r' := x1) (ht rfl) (ht rfl) .here .a ?_
    refine Jd (t := 11) .here (.of_lk rfl) ?_
    refine Qd <| rs <| rt <| jm ?_
    refine jm ?_
    refine jq (pft (ht rfl) .s) ?_
    refine jl ?_
    obtain ⟨x2, e7, h⟩ := bs h
    refine jq (PJ.eqv (JZ (R := Qi) (Qk Qx (Qk Qx Jp)) (by kernel_rfl) (by kernel_rfl) rfl (.cons (ht rfl) .f (by kernel_rfl) (.cons (ht rfl) (.t .s .f) (by kernel_rfl) (.cons (ht rfl) (.t .s .s) (by kernel_rfl) .nil)))) (oi e7)) ?_
    refine al (x := (0, 0, ([] : List Qa))) (R := Qi) (Qk Qx (Qk Qx Jp)) fun b2 => ?_
    refine jk (r' := x2) (ht rfl) (ht rfl) .here .a ?_
    refine Jd (t := 12) .here (.of_lk rfl) ?_
    refine Qd <| rs <| rt <| jl ?_
    refine jl ?_
    refine jq (QT (T := 184) (R := Qi) (.cons (ht rfl) .nil) rfl (by kernel_rfl) (by kernel_rfl)) ?_
    obtain ⟨r1, e8, h⟩ := bs h
    refine jq (pc tl2 (BO hg1 hg2 hg3 hg4 e8)) ?_
    refine jm ?_
    obtain ⟨y3, e10, h⟩ := bs h
    refine Jz (ι := Unit) (Γ' := fun _ => [(43, bl.slot y3)]) (H' := fun _ => []) 6 ?_ fun J => ?_
    ·intro _
     clear e10
     show Jc _ _ _ [(43, bl.slot y3)] [] _
     refine ja ?_
     refine Qd ?_
     obtain rfl := oi h
     exact Qo fun a w hst => QL hst rfl (.tmp rfl) () (fun _ _ h => h) (.nil)
    ·rcases Jl (r1) with e9 | e9
     ·replace e10 := bt e9 e10
      refine jz (plt (ht rfl)) e9 ?_
      refine jz (plt (ht rfl)) e9 ?_
      refine jz (plt (ht rfl)) e9 ?_
      refine jz (QT (T := 184) (R := Qi) (.cons (ht rfl) (.cons (ht rfl) .nil)) rfl (by kernel_rfl) (by kernel_rfl)) e9 ?_
      obtain ⟨r2, e11, e10⟩ := bind_some e10
      refine jz (pc tl2 (BO hg1 hg2 hg3 hg4 e11)) e9 ?_
      refine jq (pk1 e9 (ht rfl) (oi e10)) ?_
      exact Je .k1 (.nil) (J ())
     ·replace e10 := bf e9 e10
      refine jn e9 ?_
      refine jn e9 ?_
      refine jn e9 ?_
      refine jn e9 ?_
      refine jn e9 ?_
      refine jq (pk2 e9 QU (oi e10)) ?_
      exact Je .k1 (.nil) (J ())
  ·rcases Jl (y1) with e3 | e3
   ·replace e4 := bt e3 e4
    refine jN e3 ?_
    refine jN e3 ?_
    refine jq (pk1 e3 QU (oi e4)) ?_
    exact Je .k6 (.nil) (J ())
   ·replace e4 := bf e3 e4
    refine jz (pm (ht rfl)) e3 ?_
    refine jz (Xt (ht rfl) Qe) e3 ?_
    refine jq (pk2 e3 (ht rfl) (oi e4)) ?_
    exact Je .k6 (.nil) (J ())
 ·rcases Jl (decide (p_m < (0 : Int))) with e1 | e1
  ·replace e2 := bt e1 e2
   refine jN e1 ?_
   refine jN e1 ?_
   refine jN e1 ?_
   refine jq (pk1 e1 QU (oi e2)) ?_
   exact Je .k6 (.nil) (J ())
  ·replace e2 := bf e1 e2
   refine jz (pm (ht rfl)) e1 ?_
   refine jz (pm (ht rfl)) e1 ?_
   refine jz (Xt (ht rfl) (ht rfl)) e1 ?_
   refine jq (pk2 e1 (ht rfl) (oi e2)) ?_
   exact Je .k6 (.nil) (J ())
theorem VN {G : GP} {p_s : List QB} {p_v : QB} {r : Int} (h : Ze p_s p_v = some r) : Ctr Tryz.prog G 112 [(sl Ql).slot p_s, Ql.slot p_v] [] (fun (_ : Unit) => i64.slot r) (fun (_ : Unit) => []) := by
 unfold Ze at h
 refine Qp Tryz.func112 rfl 19 rfl rfl fun m0 w0 b0 => ?_
 refine Wa fun Qf hq1 hq2 => ?_
 show Run _ _ _ [(0, (sl Ql).slot p_s), (1, Ql.slot p_v)] _
 refine rs <| rt <| jq (Q0 (ht rfl)) ?_
 refine jq (pa Qe) ?_
 refine Qd <| rs <| rs <| rt <| jm ?_
 refine jq (QX (sz := 2) (ht rfl) (by kernel_rfl)) ?_
 refine jq (pm Qe) ?_
 refine Qd ?_
 obtain ⟨o, e4, h⟩ := bs h
 refine VZ (Γi := fun (i : Unit) (s : Int) => [(0, (sl Ql).slot p_s), (3, Qt Ql p_v), (7, i64.slot (p_s.length : Int)), (8, i64.slot s)]) (Hi := fun (i : Unit) (s : Int) => []) (R := fun x a w => x = r → Qf a w) e4 () (fun a w hst => (hst.sub .k4).keep (.nil)) ?_ ?_ ?_
 ·clear h e4
  rintro _ y1 lr h
  change JK p_s p_v y1 = some _ at h
  show Run _ _ _ [(0, (sl Ql).slot p_s), (3, Qt Ql p_v), (7, i64.slot (p_s.length : Int)), (8, i64.slot y1)] []
  unfold JK at h
  refine rs <| rt <| jq (Q7 (ht rfl) (ht rfl)) ?_
  refine Qd <| rs <| Qn (ht rfl) (fun e1 => ?_) (fun e1 => ?_)
  ·replace h := bt e1 h
   refine Qm <| rs <| QJ <| rs <| rt <| jm ?_
   refine ja ?_
   refine Qd <| rs ?_
   obtain ⟨x1, e2, h⟩ := bs h
   refine rd (n := 5) (.p (plt (ht rfl)) <| .m rfl <| .m rfl <| .p (pix (ht rfl) (ht rfl) Qh e2) <| .p (plt (ht rfl)) <| .nil) (Je (Γ' := [(0, (sl Ql).slot p_s), (3, Qt Ql p_v), (5, i64.slot y1), (7, i64.slot (p_s.length : Int)), (8, i64.slot y1), (11, Ql.slot p_v), (15, Ql.slot x1)]) (H' := []) .k7 (.nil) ?_)
   refine jq (Qgz (n := 2) (QdD (fs := #[Field.mk "from" 3 0 false "" "rolodex/gossip" 0, Field.mk "to" 3 1 false "" "rolodex/gossip" 8]) (by kernel_rfl) (by kernel_rfl) rfl (.cons rfl (by kernel_rfl) (by kernel_rfl) (QdM (by kernel_rfl)) (.one rfl (by kernel_rfl) (by kernel_rfl) (QdM (by kernel_rfl))))) (by decide) rfl (by kernel_rfl) (ht rfl) (ht rfl)) ?_
   refine Qd <| Qn (ht rfl) (fun e3 => ?_) (fun e3 => ?_)
   ·replace h := bt e3 h
    refine rs <| rt <| jm ?_
    refine ja ?_
    refine Qd ?_
    obtain rfl := oi h
    refine Qo fun a w hst => ⟨rfl, fun hr => ?_⟩
    subst hr
    exact hq2 a w (QL hst rfl (.tmp rfl) () (fun _ _ h => h) (.nil))
   ·replace h := bf e3 h
    refine Qm <| Qs <| rt <| jq (QW (ht rfl) Qe) ?_
    refine jm ?_
    refine Qd ?_
    obtain rfl := oi h
    exact QZ () .k4 (.nil)
  ·replace h := bf e1 h
   obtain rfl := oi h
   exact Jf () .k4 (.nil)
 ·rintro _ y2 ho
  subst ho
  show Run _ _ _ [(0, (sl Ql).slot p_s), (3, Qt Ql p_v), (7, i64.slot (p_s.length : Int)), (8, i64.slot y2)] []
  refine Q9 (Γ' := []) (H' := []) (.nil) (.nil) ?_
  refine rs <| rt <| jq (pa Qe) ?_
  refine Qd ?_
  obtain rfl := oi h
  exact Qo fun a w hst => QL hst rfl (.tmp rfl) () (fun _ _ h => h) (.nil)
 ·intro x a w ho hR
  subst ho
  exact hq1 a w (hR (oi h))
theorem Vs {G : GP} {p_s : List QB} {p_v : QB} {r : Bool} (h : JJ p_s p_v = some r) : Ctr Tryz.prog G 65 [(sl Ql).slot p_s, Ql.slot p_v] [] (fun (_ : Unit) => bl.slot r) (fun (_ : Unit) => []) := by
 unfold JJ at h
 refine Qp Tryz.func65 rfl 9 rfl rfl fun m0 w0 b0 => ?_
 show Run _ _ _ [(0, (sl Ql).slot p_s), (1, Ql.slot p_v)] _
 refine rs <| rt <| jq (Q0 (ht rfl)) ?_
 refine jq (pa QU) ?_
 refine Qd <| rs <| rt <| jm ?_
 refine jl ?_
 obtain ⟨r1, e1, h⟩ := bs h
 refine jq (pc tl2 (VN e1)) ?_
 refine jq (XF (ht rfl) Qe) ?_
 refine ja ?_
 refine Qd ?_
 obtain rfl := oi h
 exact Qo fun a w hst => QL hst rfl (.tmp rfl) () (fun _ _ h => h) (.nil)
end Go.Sl.W
namespace Go.Sl.W
open Go.Proofs Go.Sl Go.Sl.M
set_option maxHeartbeats 4000000
set_option maxRecDepth 100000
theorem Qah {G : GP} (hg1 : HG1 G) (hg2 : HG2 G) (hg3 : HG3 G) (hg4 : HG4 G) {p_p : (List (BitVec 8)) × (List Qr) × (List Qw) × (List QB)} {p_m : Int} {p_n : Int} {p_t : YS} {b_p : Nat} {v_p1 : Value} {v_p2 : Value} {v_p3 : Value} {r : ((List (BitVec 8)) × (List Qr) × (List Qw) × (List QB)) × Int} (h : X6 p_p p_m p_n p_t = some r) : Ctr Tryz.prog G 24 [val (.pointer (some ⟨b_p, 0, none⟩)), i64.slot p_m, i64.slot p_n, Za.slot p_t] [box b_p 116 (prod (sl u8) (prod (exv v_p1) (prod (exv v_p2) (exv v_p3)))) (p_p.1, (), (), ()), own 33 Qg v_p1 p_p.2.1, own 123 Qj v_p2 p_p.2.2.1, own 130 Ql v_p3 p_p.2.2.2] (fun (i : Value × Value × Value) => i64.slot r.2) (fun (i : Value × Value × Value) => [box b_p 116 (prod (sl u8) (prod (exv i.1) (prod (exv i.2.1) (exv i.2.2)))) (r.1.1, (), (), ()), own 33 Qg i.1 r.1.2.1, own 123 Qj i.2.1 r.1.2.2.1, own 130 Ql i.2.2 r.1.2.2.2]) := by
 unfold X6 at h
 refine Qp Tryz.func24 rfl 88 rfl rfl fun m0 w0 b0 => ?_
 show Run _ _ _ [(0, val (.pointer (some ⟨b_p, 0, none⟩))), (1, i64.slot p_m), (2, i64.slot p_n), (3, Za.slot p_t)] _
 refine rs <| rt <| jq (Q0 (ht rfl)) ?_
 refine jq (pa Qe) ?_
 refine Qd <| rs <| rs <| rt <| jm ?_
 refine jq (Zl (E := 116) (by kernel_rfl) (ht rfl)) ?_
 refine jm ?_
 obtain ⟨y1, e2, h⟩ := bs h
 refine Jz (ι := Unit) (Γ' := fun _ => [(0, val (.pointer (some ⟨b_p, 0, none⟩))), (1, i64.slot p_m), (2, i64.slot p_n), (7, Qt Za p_t), (19, bl.slot y1)]) (H' := fun _ => [box b_p 116 (prod (sl u8) (prod (exv v_p1) (prod (exv v_p2) (exv v_p3)))) (p_p.1, (), (), ()), own 33 Qg v_p1 p_p.2.1, own 123 Qj v_p2 p_p.2.2.1, own 130 Ql v_p3 p_p.2.2.2]) 3 ?_ fun J => ?_
 ·intro _
  clear e2
  show Jc _ _ _ [(0, val (.pointer (some ⟨b_p, 0, none⟩))), (1, i64.slot p_m), (2, i64.slot p_n), (7, Qt Za p_t), (19, bl.slot y1)] [box b_p 116 (prod (sl u8) (prod (exv v_p1) (prod (exv v_p2) (exv v_p3)))) (p_p.1, (), (), ()), own 33 Qg v_p1 p_p.2.1, own 123 Qj v_p2 p_p.2.2.1, own 130 Ql v_p3 p_p.2.2.2] _
  refine jm ?_
  obtain ⟨y2, e4, h⟩ := bs h
  refine Jz (ι := Unit) (Γ' := fun _ => [(0, val (.pointer (some ⟨b_p, 0, none⟩))), (1, i64.slot p_m), (2, i64.slot p_n), (7, Qt Za p_t), (24, bl.slot y2)]) (H' := fun _ => [box b_p 116 (prod (sl u8) (prod (exv v_p1) (prod (exv v_p2) (exv v_p3)))) (p_p.1, (), (), ()), own 33 Qg v_p1 p_p.2.1, own 123 Qj v_p2 p_p.2.2.1, own 130 Ql v_p3 p_p.2.2.2]) 4 ?_ fun J => ?_
  ·intro _
   clear e4
   show Jc _ _ _ [(0, val (.pointer (some ⟨b_p, 0, none⟩))), (1, i64.slot p_m), (2, i64.slot p_n), (7, Qt Za p_t), (24, bl.slot y2)] [box b_p 116 (prod (sl u8) (prod (exv v_p1) (prod (exv v_p2) (exv v_p3)))) (p_p.1, (), (), ()), own 33 Qg v_p1 p_p.2.1, own 123 Qj v_p2 p_p.2.2.1, own 130 Ql v_p3 p_p.2.2.2] _
   refine Qd <| Qn (ht rfl) (fun e5 => ?_) (fun e5 => ?_)
   ·replace h := bt e5 h
    refine rs <| rt <| jq (pa Qe) ?_
    refine Qd ?_
    obtain rfl := oi h
    exact Qo fun a w hst => QL hst rfl (.tmp rfl) (v_p1, v_p2, v_p3) (fun _ _ h => h) .h4
   ·replace h := bf e5 h
    refine Qm <| rs <| rt <| jm ?_
    refine jm ?_
    obtain ⟨r1, e6, h⟩ := bs h
    refine jq (Yo (Q1 (KN (ht rfl) .here (Zh (.next .here) (Jt (sl u8) p_p.1 (VE (prod (exv v_p2) (exv v_p3)) ((), ()) Xv)) <| Zh (.next (.next .here)) (Jt (sl u8) p_p.1 (Jt (sl Qg) p_p.2.1 (VE (exv v_p3) () Xv))) <| Zh (.next (.next (.next .here))) (Jt (sl u8) p_p.1 (Jt (sl Qg) p_p.2.1 (Jt (sl Qj) p_p.2.2.1 Xv))) <| KJ)) <| Q1 (Yr (ht rfl)) <| Zj) (by kernel_rfl) (Xb e6) (QcX (Uc (Rep.flat_slot QaO _) (Uc (Rep.flat_slot UU _) (Qa3))))) ?_
    refine jm ?_
    refine jx ?_
    refine jx ?_
    refine ja ?_
    refine ja ?_
    refine Qd <| rs <| rt <| jm ?_
    refine jm ?_
    obtain ⟨r2, e7, h⟩ := bs h
    refine jq (Yo (Q1 (KN (ht rfl) .here (Zh (.next .here) (Jt (sl u8) p_p.1 (VE (prod (exv v_p2) (exv v_p3)) ((), ()) Xv)) <| Zh (.next (.next .here)) (Jt (sl u8) p_p.1 (Jt (sl Qg) p_p.2.1 (VE (exv v_p3) () Xv))) <| Zh (.next (.next (.next .here))) (Jt (sl u8) p_p.1 (Jt (sl Qg) p_p.2.1 (Jt (sl Qj) p_p.2.2.1 Xv))) <| KJ)) <| Q1 (Yr (ht rfl)) <| Zj) (by kernel_rfl) (Xb e7) (QcX (Uc (Rep.flat_slot QaO _) (Uc (Rep.flat_slot UU _) (Qa3))))) ?_
    refine jm ?_
    refine jx ?_
    refine jx ?_
    refine ja ?_
    refine ja ?_
    refine Qd <| rs <| QJ <| rs <| rt <| jm ?_
    refine jq (ZI (ht rfl)) ?_
    refine jm ?_
    obtain ⟨y3, e9, h⟩ := bs h
    refine Jz (ι := Unit) (Γ' := fun _ => [(0, val (.pointer (some ⟨b_p, 0, none⟩))), (1, i64.slot p_m), (2, i64.slot p_n), (7, Qt Za p_t), (9, i64.slot r1.1), (11, i64.slot r2.1), (43, bl.slot y3)]) (H' := fun _ => [box b_p 116 (prod (sl u8) (prod (exv v_p1) (prod (exv v_p2) (exv v_p3)))) (p_p.1, (), (), ()), own 33 Qg v_p1 p_p.2.1, own 123 Qj v_p2 p_p.2.2.1, own 130 Ql v_p3 p_p.2.2.2]) 3 ?_ fun J => ?_
    ·intro _
     clear e9
     show Jc _ _ _ [(0, val (.pointer (some ⟨b_p, 0, none⟩))), (1, i64.slot p_m), (2, i64.slot p_n), (7, Qt Za p_t), (9, i64.slot r1.1), (11, i64.slot r2.1), (43, bl.slot y3)] [box b_p 116 (prod (sl u8) (prod (exv v_p1) (prod (exv v_p2) (exv v_p3)))) (p_p.1, (), (), ()), own 33 Qg v_p1 p_p.2.1, own 123 Qj v_p2 p_p.2.2.1, own 130 Ql v_p3 p_p.2.2.2] _
     refine ja ?_
     refine Qd <| Qn (ht rfl) (fun e10 => ?_) (fun e10 => ?_)
     ·replace h := bt e10 h
      refine rs <| rt <| jq (pa Qe) ?_
      refine Qd ?_
      obtain rfl := oi h
      exact Qo fun a w hst => QL hst rfl (.tmp rfl) (v_p1, v_p2, v_p3) (fun _ _ h => h) .h4
     ·replace h := bf e10 h
      refine rs ?_
      obtain ⟨x1, e11, h⟩ := bs h
      obtain ⟨x2, e12, h⟩ := bs h
      refine rd (n := 21) (.p (plt (ht rfl)) <| .m rfl <| .m rfl <| .m rfl <| .p (Qv (ht rfl)) <| .p (pfp (off := 1) (ht rfl)) <| .p (plb (ht rfl) .here (.t .a (.t .s .f))) <| .m rfl <| .p (J8 (ht rfl) (.next .here) (ht rfl) Qh (Q4 e11).1 (Q4 e11).2.1 (by kernel_rfl)) <| .p (WI (off := 0) (ht rfl) (by kernel_rfl)) <| .p (qH (o1 := 0 + 0) (off := 34) (ht rfl) (by kernel_rfl)) <| .p (W4 Qg r1.1 (ht rfl) (.next .here) e11 (.t (.t .a .f) (.t .s (.t .s .s))) (by kernel_rfl) rfl) <| .m rfl <| .p (Qv (ht rfl)) <| .p (pfp (off := 1) (ht rfl)) <| .p (plb (ht rfl) .here (.t .a (.t .s .f))) <| .m rfl <| .p (J8 (ht rfl) (.next .here) (ht rfl) Qh (Q4 e12).1 (Q4 e12).2.1 (by kernel_rfl)) <| .p (WI (off := 0) (ht rfl) (by kernel_rfl)) <| .p (qH (o1 := 0 + 0) (off := 34) (ht rfl) (by kernel_rfl)) <| .p (W4 Qg r2.1 (ht rfl) (.next .here) e12 (.t (.t .a .f) (.t .s (.t .s .s))) (by kernel_rfl) rfl) <| .nil) (Je (Γ' := [(0, val (.pointer (some ⟨b_p, 0, none⟩))), (1, i64.slot p_m), (2, i64.slot p_n), (45, Za.slot p_t), (46, i64.slot p_m), (47, i64.slot p_n), (56, Qb.slot x1.1.2.2.2), (65, Qb.slot x2.1.2.2.2)]) (H' := [box b_p 116 (prod (sl u8) (prod (exv v_p1) (prod (exv v_p2) (exv v_p3)))) (p_p.1, (), (), ()), own 33 Qg v_p1 p_p.2.1, own 123 Qj v_p2 p_p.2.2.1, own 130 Ql v_p3 p_p.2.2.2]) .k8 .h4 ?_)
      obtain ⟨r3, e13, h⟩ := bs h
      refine jq (pc tl5 (Qa5 hg1 hg2 hg3 hg4 e13)) ?_
      refine jq (ZI (ht rfl)) ?_
      refine ja ?_
      refine Qd <| Qn (ht rfl) (fun e14 => ?_) (fun e14 => ?_)
      ·replace h := bt e14 h
       refine rs <| rt <| jq (pa Qe) ?_
       refine Qd ?_
       obtain rfl := oi h
       exact Qo fun a w hst => QL hst rfl (.tmp rfl) (v_p1, v_p2, v_p3) (fun _ _ h => h) .h4
      ·replace h := bf e14 h
       refine Qm <| Qs <| rs <| rs <| rt <| jm ?_
       refine jm ?_
       obtain ⟨x3, e15, h⟩ := bs h
       refine jq (PJ.eqv (JZ (R := Ql) (Qk Qx Qx) (by kernel_rfl) (by kernel_rfl) rfl (.cons (ht rfl) .f (by kernel_rfl) (.cons (ht rfl) .s (by kernel_rfl) .nil))) (oi e15)) ?_
       refine al (x := (0, 0)) (R := Ql) (Qk Qx Qx) fun b1 => ?_
       refine jk (r' := x3) (ht rfl) (ht rfl) .here .a ?_
       refine Jd (t := 13) .here (.of_lk rfl) ?_
       refine Qd <| rs <| rd (n := 5) (.m rfl <| .p (Qv (ht rfl)) <| .p (pfp (off := 3) (ht rfl)) <| .p (plb (ht rfl) .here (.t .a (.t .s (.t .s .s)))) <| .p (plt (ht rfl)) <| .nil) (Je (Γ' := [(0, val (.pointer (some ⟨b_p, 0, none⟩))), (13, Qt Ql x3), (74, ov v_p3), (75, Ql.slot x3)]) (H' := [box b_p 116 (prod (sl u8) (prod (exv v_p1) (prod (exv v_p2) (exv v_p3)))) (p_p.1, (), (), ()), own 33 Qg v_p1 p_p.2.1, own 123 Qj v_p2 p_p.2.2.1, own 130 Ql v_p3 p_p.2.2.2]) .k4 .h4 ?_)
       obtain ⟨r4, e16, h⟩ := bs h
       refine jq (Yo (Q1 (VO (ht rfl) (.next (.next (.next .here)))) <| Q1 (Yr (ht rfl)) <| Zj) (by kernel_rfl) (Vs e16) (Rep.flat_slot UU _)) ?_
       refine jq (ZI (ht rfl)) ?_
       refine Qd <| Qn (ht rfl) (fun e17 => ?_) (fun e17 => ?_)
       ·replace h := bt e17 h
        obtain ⟨e18, h⟩ := QS h
        refine Xn (H' := [own 130 Ql v_p3 p_p.2.2.2, box b_p 116 (prod (sl u8) (prod (exv v_p1) (prod (exv v_p2) (exv v_p3)))) (p_p.1, (), (), ()), own 33 Qg v_p1 p_p.2.1, own 123 Qj v_p2 p_p.2.2.1]) (.cons (.next (.next (.next .here))) <| .cons .here <| .cons .here <| .cons .here <| .nil) ?_
        refine rdL (n := 8) (H := [box b_p 116 (prod (sl u8) (prod (exv v_p1) (prod (exv v_p2) (exv v_p3)))) (p_p.1, (), (), ()), own 33 Qg v_p1 p_p.2.1, own 123 Qj v_p2 p_p.2.2.1]) (Ls := [⟨[own 130 Ql v_p3 p_p.2.2.2], [(7, ⟨Value, fun (v1 : Value) => [own 130 Ql v1 (p_p.2.2.2 ++ ([x3]))], fun (v1 : Value) => [(85, ov v1)]⟩)]⟩]) (.m rfl <| .m rfl <| .p (Qv (ht rfl)) <| .p (pfp (off := 3) (ht rfl)) <| .p (plb (ht rfl) .here (.t .a (.t .s (.t .s .s)))) <| .p (plt (ht rfl)) <| .p (QT (T := 130) (R := Ql) (.cons (ht rfl) .nil) rfl (by kernel_rfl) (by kernel_rfl)) <| .step 0 rfl .here (.inl rfl) (fun i => ⟨_, _, fun j => j, (Qc7 (T := 130) (E := 130) (ht rfl) .here (JE (ht rfl)) (by kernel_rfl) (by kernel_rfl) e18 rfl), fun _ => rfl, VJ, Bh⟩) <| .nil) ?_
        rintro v1
        refine Je (Γ' := [(78, val (.pointer (some ⟨b_p, 0, none⟩))), (85, ov v1)]) (H' := [own 130 Ql v1 (p_p.2.2.2 ++ ([x3])), box b_p 116 (prod (sl u8) (prod (exv v_p1) (prod (exv v_p2) (exv v_p3)))) (p_p.1, (), (), ()), own 33 Qg v_p1 p_p.2.1, own 123 Qj v_p2 p_p.2.2.1]) .k2 .h4 ?_
        refine jq (Qv (ht rfl)) ?_
        refine jq (pfp (off := 3) (ht rfl)) ?_
        refine U4 (p_p.1, (), (), ()) (ht rfl) (ht rfl) (.next .here) (KV (sl u8) p_p.1 (KV (exv v_p1) () (KV (exv v_p2) () qa))) (by kernel_rfl) ?_
        refine Qd <| rs <| rt <| jq (pa Qe) ?_
        refine Qd ?_
        obtain rfl := oi h
        exact Qo fun a w hst => QL hst rfl (.tmp rfl) (v_p1, v_p2, v1) (fun _ _ h => h) (.cons .here <| .cons (.next .here) <| .cons (.next .here) <| .cons .here <| .nil)
       ·replace h := bf e17 h
        refine Qm <| rs <| rt <| jq (pa Qe) ?_
        refine Qd ?_
        obtain rfl := oi h
        exact Qo fun a w hst => QL hst rfl (.tmp rfl) (v_p1, v_p2, v_p3) (fun _ _ h => h) .h4
    ·rcases Jl (!r1.2) with e8 | e8
     ·replace e9 := bt e8 e9
      refine jN e8 ?_
      refine jN e8 ?_
      refine jq (pk1 e8 QU (oi e9)) ?_
      exact Je .k7 .h4 (J ())
     ·replace e9 := bf e8 e9
      refine jz (pm (ht rfl)) e8 ?_
      refine jz (ZI (ht rfl)) e8 ?_
      refine jq (pk2 e8 (ht rfl) (oi e9)) ?_
      exact Je .k7 .h4 (J ())
  ·rcases Jl (y1) with e3 | e3
   ·replace e4 := bt e3 e4
    refine jN e3 ?_
    refine jN e3 ?_
    refine jN e3 ?_
    refine jq (pk1 e3 QU (oi e4)) ?_
    exact Je .k5 .h4 (J ())
   ·replace e4 := bf e3 e4
    refine jz (pm (ht rfl)) e3 ?_
    refine jz (pm (ht rfl)) e3 ?_
    refine jz (XF (ht rfl) (ht rfl)) e3 ?_
    refine jq (pk2 e3 (ht rfl) (oi e4)) ?_
    exact Je .k5 .h4 (J ())
 ·have e1 : (false) = false := rfl
  refine jz (pm (ht rfl)) e1 ?_
  refine jz (Q7 (ht rfl) Qe) e1 ?_
  refine jq (pk2 e1 (ht rfl) (oi e2)) ?_
  exact Je .k5 .h4 (J ())
theorem qX {G : GP} {p_p : Option Zb} {r : (List (Vector Int 2))} (h : X3 p_p = some r) : Ctr Tryz.prog G 36 [(ptr Ja).slot p_p] [] (fun (u0 : Value) => ov u0) (fun (u0 : Value) => [own 81 (vec 2 i64) u0 r]) := by
 unfold X3 at h
 refine Qp Tryz.func36 rfl 49 rfl rfl fun m0 w0 b0 => ?_
 show Run _ _ _ [(0, (ptr Ja).slot p_p)] _
 refine rs <| rt <| QN (T := 81) (vec 2 i64) rfl fun v1 => ?_
 refine Qd <| rs <| rs <| rt <| jm ?_
 refine jq (WX (E := 116) (by kernel_rfl) (ht rfl)) ?_
 refine Qd <| Qn (ht rfl) (fun e1 => ?_) (fun e1 => ?_)
 ·replace h := bt e1 h
  refine rs <| rt <| QN (T := 81) (vec 2 i64) rfl fun v2 => ?_
  refine Qd ?_
  obtain rfl := oi h
  exact Qo fun a w hst => QL hst rfl (.tmp rfl) v2 (fun _ _ h => h) .h1
 ·replace h := bf e1 h
  refine Qm <| rs <| rt <| QN (T := 81) (vec 2 i64) rfl fun v3 => ?_
  refine Qd <| rs <| rs <| rt <| jq (pa Qe) ?_
  refine Qd ?_
  obtain ⟨⟨y3, y4⟩, e12, h⟩ := bs h
  refine Q2 (Γi := fun (i : Value) (s : Int × (List (Vector Int 2))) => [(0, (ptr Ja).slot p_p), (3, ov i), (4, i64.slot s.1)]) (Hi := fun (i : Value) (s : Int × (List (Vector Int 2))) => [own 81 (vec 2 i64) i s.2]) e12 v3 (fun a w hst => (hst.sub .k3).keep .h1) ?_ ?_
  ·clear h e12
   rintro v4 ⟨y1, y2⟩ lr h
   change Xd p_p y1 y2 = some _ at h
   show Run _ _ _ [(0, (ptr Ja).slot p_p), (3, ov v4), (4, i64.slot y1)] [own 81 (vec 2 i64) v4 y2]
   unfold Xd at h
   refine rs <| rs <| rt <| jm ?_
   refine jm ?_
   obtain ⟨x1, e2, h⟩ := bs h
   refine jq (JC (ht rfl) e2) ?_
   refine jq (pft (ht rfl) (.t .s .f)) ?_
   refine jl ?_
   refine jq (QX (sz := 67) (ht rfl) (by kernel_rfl)) ?_
   refine jq (Q7 (ht rfl) (ht rfl)) ?_
   refine Qd <| Qn (ht rfl) (fun e3 => ?_) (fun e3 => ?_)
   ·replace h := bt e3 h
    refine Qm <| rs <| QJ <| rs ?_
    obtain ⟨x2, e4, h⟩ := bs h
    obtain ⟨x3, e5, h⟩ := bs h
    obtain ⟨x4, e6, h⟩ := bs h
    obtain ⟨x5, e7, h⟩ := bs h
    refine rd (n := 20) (.m rfl <| .p (JC (ht rfl) e4) <| .p (pft (ht rfl) (.t .s .f)) <| .p (plt (ht rfl)) <| .m rfl <| .p (JS (ht rfl) Qe) <| .p (pix (ht rfl) (ht rfl) Qh e5) <| .p (pft (ht rfl) .f) <| .p (pft (ht rfl) .f) <| .p (plt (ht rfl)) <| .m rfl <| .p (JC (ht rfl) e6) <| .p (pft (ht rfl) (.t .s .f)) <| .p (plt (ht rfl)) <| .m rfl <| .p (pix (ht rfl) (ht rfl) Qh e7) <| .p (pft (ht rfl) .f) <| .p (pft (ht rfl) .f) <| .p (plt (ht rfl)) <| .p (pa (ht rfl)) <| .nil) (Je (Γ' := [(0, (ptr Ja).slot p_p), (3, ov v4), (4, i64.slot y1), (5, i64.slot x3.1.1), (36, i64.slot x5.1.1)]) (H' := [own 81 (vec 2 i64) v4 y2]) .k5 .h1 ?_)
    refine ja ?_
    refine Qd <| rs <| rt <| jm ?_
    refine jm ?_
    refine jm ?_
    obtain ⟨r1, e8, h⟩ := bs h
    refine jq (pc tl3 (YZ e8)) ?_
    refine jq (ZI (ht rfl)) ?_
    refine Qd <| Qn (ht rfl) (fun e9 => ?_) (fun e9 => ?_)
    ·replace h := bt e9 h
     refine rt <| jm ?_
     refine jm ?_
     refine jm ?_
     obtain ⟨x6, e10, h⟩ := bs h
     refine jq (PJ.eqv (Ur (z0 := 0) (QA 2 Qx) (by kernel_rfl) (.cons (ht rfl) (.cons (ht rfl) .nil)) (by kernel_rfl) rfl) (oi e10)) ?_
     refine jq (QT (T := 81) (R := (vec 2 i64)) (.cons (ht rfl) .nil) rfl (by kernel_rfl) (by kernel_rfl)) ?_
     obtain ⟨e11, h⟩ := QS h
     refine JQ (T := 81) (E := 81) (ht rfl) .here (JE (ht rfl)) (by kernel_rfl) (by kernel_rfl) e11 rfl fun v5 => ?_
     refine ja ?_
     refine Qd <| Qs <| rt <| jm ?_
     refine jq (QW (ht rfl) Qe) ?_
     refine ja ?_
     refine Qd ?_
     obtain rfl := oi h
     exact QZ v5 .k3 .h1
    ·replace h := bf e9 h
     refine Qm <| Qs <| rt <| jm ?_
     refine jq (QW (ht rfl) Qe) ?_
     refine ja ?_
     refine Qd ?_
     obtain rfl := oi h
     exact QZ v4 .k3 .h1
   ·replace h := bf e3 h
    obtain rfl := oi h
    exact Jf v4 .k3 .h1
  ·rintro v6
   show Run _ _ _ [(0, (ptr Ja).slot p_p), (3, ov v6), (4, i64.slot y3)] [own 81 (vec 2 i64) v6 y4]
   refine Q9 (Γ' := [(3, ov v6)]) (H' := [own 81 (vec 2 i64) v6 y4]) .k1 .h1 ?_
   refine rs <| rt <| jm ?_
   refine ja ?_
   refine Qd ?_
   obtain rfl := oi h
   exact Qo fun a w hst => QL hst rfl (.tmp rfl) v6 (fun _ _ h => h) .h1
theorem qW {G : GP} {p_from : Int} {p_to : Int} {r : Bool} (h : X2 p_from p_to = some r) : Ctr Tryz.prog G 114 [i64.slot p_from, i64.slot p_to] [] (fun (_ : Unit) => bl.slot r) (fun (_ : Unit) => []) := by
 unfold X2 at h
 refine Qp Tryz.func114 rfl 16 rfl rfl fun m0 w0 b0 => ?_
 show Run _ _ _ [(0, i64.slot p_from), (1, i64.slot p_to)] _
 refine rs <| rt <| jq (pa QU) ?_
 refine Qd <| rs <| rt <| jm ?_
 refine jq (XF (ht rfl) Qe) ?_
 refine jm ?_
 obtain ⟨y1, e2, h⟩ := bs h
 refine Jz (ι := Unit) (Γ' := fun _ => [(1, i64.slot p_to), (11, bl.slot y1)]) (H' := fun _ => []) 4 ?_ fun J => ?_
 ·intro _
  clear e2
  show Jc _ _ _ [(1, i64.slot p_to), (11, bl.slot y1)] [] _
  refine jm ?_
  obtain ⟨y2, e4, h⟩ := bs h
  refine Jz (ι := Unit) (Γ' := fun _ => [(15, bl.slot y2)]) (H' := fun _ => []) 3 ?_ fun J => ?_
  ·intro _
   clear e4
   show Jc _ _ _ [(15, bl.slot y2)] [] _
   refine ja ?_
   refine Qd ?_
   obtain rfl := oi h
   exact Qo fun a w hst => QL hst rfl (.tmp rfl) () (fun _ _ h => h) (.nil)
  ·rcases Jl (y1) with e3 | e3
   ·replace e4 := bt e3 e4
    refine jz (pm (ht rfl)) e3 ?_
    refine jz (KS (ht rfl) Qe) e3 ?_
    refine jq (pk1 e3 (ht rfl) (oi e4)) ?_
    exact Je .k1 (.nil) (J ())
   ·replace e4 := bf e3 e4
    refine jn e3 ?_
    refine jn e3 ?_
    refine jq (pk2 e3 QU (oi e4)) ?_
    exact Je .k1 (.nil) (J ())
 ·rcases Jl (decide ((0 : Int) ≤ p_from)) with e1 | e1
  ·replace e2 := bt e1 e2
   refine jz (pm (ht rfl)) e1 ?_
   refine jz (pm (ht rfl)) e1 ?_
   refine jz (KS (ht rfl) (ht rfl)) e1 ?_
   refine jq (pk1 e1 (ht rfl) (oi e2)) ?_
   exact Je .k2 (.nil) (J ())
  ·replace e2 := bf e1 e2
   refine jn e1 ?_
   refine jn e1 ?_
   refine jn e1 ?_
   refine jq (pk2 e1 QU (oi e2)) ?_
   exact Je .k2 (.nil) (J ())
theorem qq {G : GP} {p_from : Int} {p_to : Int} {r : Int} (h : Y3 p_from p_to = some r) : Ctr Tryz.prog G 115 [i64.slot p_from, i64.slot p_to] [] (fun (_ : Unit) => i64.slot r) (fun (_ : Unit) => []) := by
 unfold Y3 at h
 refine Qp Tryz.func115 rfl 22 rfl rfl fun m0 w0 b0 => ?_
 show Run _ _ _ [(0, i64.slot p_from), (1, i64.slot p_to)] _
 refine rs <| rt <| jq (pa Qe) ?_
 refine Qd <| rs <| rt <| jq (pa Qe) ?_
 refine Qd <| rs ?_
 obtain ⟨y3, e5, h⟩ := bs h
 refine Q2 (Γi := fun (i : Unit) (s : Int) => [(0, i64.slot p_from), (1, i64.slot p_to), (5, i64.slot s)]) (Hi := fun (i : Unit) (s : Int) => []) e5 () (fun a w hst => (hst.sub .k3).keep (.nil)) ?_ ?_
 ·clear h e5
  rintro _ y1 lr h
  change ZK p_to p_from y1 = some _ at h
  show Run _ _ _ [(0, i64.slot p_from), (1, i64.slot p_to), (5, i64.slot y1)] []
  unfold ZK at h
  refine rs <| rs <| rt <| jm ?_
  refine jq (XJ Qe (ht rfl)) ?_
  refine jm ?_
  refine jm ?_
  refine jq (JS (ht rfl) (ht rfl)) ?_
  refine jq (KS (ht rfl) (ht rfl)) ?_
  refine jm ?_
  obtain ⟨y2, e2, h⟩ := bs h
  refine Jz (ι := Unit) (Γ' := fun _ => [(0, i64.slot p_from), (1, i64.slot p_to), (5, i64.slot y1), (18, bl.slot y2)]) (H' := fun _ => []) 6 ?_ fun J => ?_
  ·intro _
   clear e2
   show Jc _ _ _ [(0, i64.slot p_from), (1, i64.slot p_to), (5, i64.slot y1), (18, bl.slot y2)] [] _
   refine Qd <| Qn (ht rfl) (fun e4 => ?_) (fun e4 => ?_)
   ·replace h := bt e4 h
    refine Qm <| QJ <| rt <| jm ?_
    refine jq (XJ Qe (ht rfl)) ?_
    refine ja ?_
    refine Qd <| Qs ?_
    obtain rfl := oi h
    exact QZ () .k3 (.nil)
   ·replace h := bf e4 h
    obtain rfl := oi h
    exact Jf () .k3 (.nil)
  ·rcases Jl (decide ((w64 ((2 : Int) * y1)) ≤ (w64 (p_to - p_from)))) with e1 | e1
   ·replace e2 := bt e1 e2
    refine jz (pm (ht rfl)) e1 ?_
    refine jz (pm (ht rfl)) e1 ?_
    refine jz (XJ Qe (ht rfl)) e1 ?_
    obtain ⟨e3, e2⟩ := QS e2
    refine jz (qn (ht rfl) (ht rfl) e3) e1 ?_
    refine jz (ZJ (ht rfl) Qe) e1 ?_
    refine jq (pk1 e1 (ht rfl) (oi e2)) ?_
    exact Je .k4 (.nil) (J ())
   ·replace e2 := bf e1 e2
    refine jn e1 ?_
    refine jn e1 ?_
    refine jn e1 ?_
    refine jn e1 ?_
    refine jn e1 ?_
    refine jq (pk2 e1 QU (oi e2)) ?_
    exact Je .k4 (.nil) (J ())
 ·rintro _
  show Run _ _ _ [(0, i64.slot p_from), (1, i64.slot p_to), (5, i64.slot y3)] []
  refine Q9 (Γ' := [(5, i64.slot y3)]) (H' := []) .k1 (.nil) ?_
  refine rs <| rt <| jm ?_
  refine ja ?_
  refine Qd ?_
  obtain rfl := oi h
  exact Qo fun a w hst => QL hst rfl (.tmp rfl) () (fun _ _ h => h) (.nil)
theorem WZ {G : GP} {p_from : Int} {p_to : Int} {r : (List Int)} (h : YI p_from p_to = some r) : Ctr Tryz.prog G 67 [i64.slot p_from, i64.slot p_to] [] (fun (u0 : Value) => ov u0) (fun (u0 : Value) => [own 3 i64 u0 r]) := by
 unfold YI at h
 refine Qp Tryz.func67 rfl 25 rfl rfl fun m0 w0 b0 => ?_
 show Run _ _ _ [(0, i64.slot p_from), (1, i64.slot p_to)] _
 refine rs <| rt <| QN (T := 3) i64 rfl fun v1 => ?_
 refine Qd <| rs <| rt <| QN (T := 3) i64 rfl fun v2 => ?_
 refine Qd <| rs <| rs <| rt <| jm ?_
 refine jm ?_
 obtain ⟨r1, e1, h⟩ := bs h
 refine jq (pc tl2 (qW e1)) ?_
 refine jq (ZI (ht rfl)) ?_
 refine Qd <| Qn (ht rfl) (fun e2 => ?_) (fun e2 => ?_)
 ·replace h := bt e2 h
  refine rs <| rt <| QN (T := 3) i64 rfl fun v3 => ?_
  refine Qd ?_
  obtain rfl := oi h
  exact Qo fun a w hst => QL hst rfl (.tmp rfl) v3 (fun _ _ h => h) .h1
 ·replace h := bf e2 h
  refine Qm <| rs ?_
  obtain ⟨⟨y3, y4⟩, e6, h⟩ := bs h
  refine Q2 (Γi := fun (i : Value) (s : Int × (List Int)) => [(0, i64.slot s.1), (1, i64.slot p_to), (5, ov i)]) (Hi := fun (i : Value) (s : Int × (List Int)) => [own 3 i64 i s.2]) e6 v2 (fun a w hst => (hst.sub .k3).keep .h1) ?_ ?_
  ·clear h e6
   rintro v4 ⟨y1, y2⟩ lr h
   change YU p_to y1 y2 = some _ at h
   show Run _ _ _ [(0, i64.slot y1), (1, i64.slot p_to), (5, ov v4)] [own 3 i64 v4 y2]
   unfold YU at h
   refine rs <| rs <| rt <| jm ?_
   refine jm ?_
   refine jq (Q7 (ht rfl) (ht rfl)) ?_
   refine Qd <| Qn (ht rfl) (fun e3 => ?_) (fun e3 => ?_)
   ·replace h := bt e3 h
    refine Qm <| QJ <| rs <| rt <| jm ?_
    refine jm ?_
    obtain ⟨r2, e4, h⟩ := bs h
    refine jq (pc tl2 (qq e4)) ?_
    refine ja ?_
    refine Qd <| rs <| rt <| jm ?_
    refine jm ?_
    refine jq (QT (T := 3) (R := i64) (.cons (ht rfl) .nil) rfl (by kernel_rfl) (by kernel_rfl)) ?_
    obtain ⟨e5, h⟩ := QS h
    refine JQ (T := 3) (E := 3) (ht rfl) .here (JE (ht rfl)) (by kernel_rfl) (by kernel_rfl) e5 rfl fun v5 => ?_
    refine ja ?_
    refine Qd <| rt <| jm ?_
    refine jm ?_
    refine jq (QW (ht rfl) (ht rfl)) ?_
    refine ja ?_
    refine Qd <| Qs ?_
    obtain rfl := oi h
    exact QZ v5 .k3 .h1
   ·replace h := bf e3 h
    obtain rfl := oi h
    exact Jf v4 .k3 .h1
  ·rintro v6
   show Run _ _ _ [(0, i64.slot y3), (1, i64.slot p_to), (5, ov v6)] [own 3 i64 v6 y4]
   refine Q9 (Γ' := [(5, ov v6)]) (H' := [own 3 i64 v6 y4]) .k1 .h1 ?_
   refine rs <| rt <| jm ?_
   refine ja ?_
   refine Qd ?_
   obtain rfl := oi h
   exact Qo fun a w hst => QL hst rfl (.tmp rfl) v6 (fun _ _ h => h) .h1
theorem Wx {G : GP} {p_from : Int} {p_l : List Qa} {r : VV × Int} (h : Ye p_from p_l = some r) : Ctr Tryz.prog G 76 [i64.slot p_from, (sl Qb).slot p_l] [] (fun (_ : Unit) => tup [Jn.slot r.1, i64.slot r.2]) (fun (_ : Unit) => []) := by
 unfold Ye at h
 refine Qp Tryz.func76 rfl 59 rfl rfl fun m0 w0 b0 => ?_
 show Run _ _ _ [(0, i64.slot p_from), (1, (sl Qb).slot p_l)] _
 refine rs <| rt <| al (x := (0, 0, ([] : List Qa))) (R := Jn) (Qk Qx (Qk Qx Jp)) fun b1 => ?_
 refine jq (pa Qe) ?_
 refine Qd <| rs <| rs <| rt <| jm ?_
 refine jq (Q7 (ht rfl) Qe) ?_
 refine jm ?_
 obtain ⟨y1, e2, h⟩ := bs h
 refine Jz (ι := Unit) (Γ' := fun _ => [(0, i64.slot p_from), (1, (sl Qb).slot p_l), (4, val (.pointer (some ⟨b1, 0, none⟩))), (14, bl.slot y1)]) (H' := fun _ => [box b1 148 Jn (0, 0, ([] : List Qa))]) 3 ?_ fun J => ?_
 ·intro _
  clear e2
  show Jc _ _ _ [(0, i64.slot p_from), (1, (sl Qb).slot p_l), (4, val (.pointer (some ⟨b1, 0, none⟩))), (14, bl.slot y1)] [box b1 148 Jn (0, 0, ([] : List Qa))] _
  refine jm ?_
  obtain ⟨y2, e4, h⟩ := bs h
  refine Jz (ι := Unit) (Γ' := fun _ => [(0, i64.slot p_from), (1, (sl Qb).slot p_l), (4, val (.pointer (some ⟨b1, 0, none⟩))), (21, bl.slot y2)]) (H' := fun _ => [box b1 148 Jn (0, 0, ([] : List Qa))]) 6 ?_ fun J => ?_
  ·intro _
   clear e4
   show Jc _ _ _ [(0, i64.slot p_from), (1, (sl Qb).slot p_l), (4, val (.pointer (some ⟨b1, 0, none⟩))), (21, bl.slot y2)] [box b1 148 Jn (0, 0, ([] : List Qa))] _
   refine Qd <| Qn (ht rfl) (fun e5 => ?_) (fun e5 => ?_)
   ·replace h := bt e5 h
    refine rs <| rt <| jq (JZ (R := Jn) (Qk Qx (Qk Qx Jp)) (by kernel_rfl) (by kernel_rfl) rfl .nil) ?_
    refine jk (r' := (0, 0, ([] : List Qa))) (ht rfl) (ht rfl) .here .a ?_
    refine jq (pa Qe) ?_
    refine Qd ?_
    obtain rfl := oi h
    exact Qo fun a w hst => JV hst rfl (.cons (.cell rfl .here (by kernel_rfl)) <| .cons (.tmp rfl) <| .nil) rfl () (fun _ _ h => h) (.nil)
   ·replace h := bf e5 h
    refine Qm <| rs <| rt <| jm ?_
    refine jm ?_
    refine jm ?_
    refine jq (QX (sz := 32) (ht rfl) (by kernel_rfl)) ?_
    refine jq (QW (ht rfl) (ht rfl)) ?_
    refine KE 23 Qb none (jq (qf (R := (prod i64 (prod i64 (exv (.slice none 0 0))))) (x := (0, 0, ())) (Qk Qx (Qk Qx X4)) (by kernel_rfl) (by kernel_rfl) rfl (.cons (ht rfl) (KQ (x1 := (p_from, 0, ())) .f rfl) (by kernel_rfl) (.cons (ht rfl) (KQ (x1 := (p_from, w64 (p_from + (p_l.length : Int)), ())) (.t .s .f) rfl) (by kernel_rfl) .nil))) ?_)
    refine al (x := (0, 0, ())) (R := (prod i64 (prod i64 (exv (.slice none 0 0))))) (Qk Qx (Qk Qx X4)) fun b2 => ?_
    refine Qbw (ht rfl) (ht rfl) .here (by kernel_rfl) (by kernel_rfl) ?_
    refine Qd <| rs <| rt <| jq (pfp (off := 0) (ht rfl)) ?_
    refine jq (plb (ht rfl) .here (.t .a .f)) ?_
    refine jq (pfp (off := 1) (ht rfl)) ?_
    refine jq (plb (ht rfl) .here (.t .a (.t .s .f))) ?_
    obtain ⟨r1, e6, h⟩ := bs h
    refine jq (pc tl2 (Ctr.froze (WZ e6))) ?_
    refine ja ?_
    refine Qd <| rs <| rs <| rt <| jq (pa Qe) ?_
    refine Qd ?_
    obtain ⟨⟨y6, y7, y8⟩, e14, h⟩ := bs h
    refine Q2 (Γi := fun (i : Value) (s : (List Qa) × Int × (List Qa)) => [(1, (sl Qb).slot s.1), (4, val (.pointer (some ⟨b1, 0, none⟩))), (6, val (.pointer (some ⟨b2, 0, none⟩))), (7, (sl i64).slot r1), (8, i64.slot s.2.1)]) (Hi := fun (i : Value) (s : (List Qa) × Int × (List Qa)) => [box b2 148 (prod i64 (prod i64 (exv i))) (p_from, w64 (p_from + (p_l.length : Int)), ()), own 23 Qb i s.2.2, box b1 148 Jn (0, 0, ([] : List Qa))]) e14 (.slice none 0 0) (fun a w hst => (hst.sub .k5).keep .h3) ?_ ?_
    ·clear h e14
     rintro v1 ⟨y3, y4, y5⟩ lr h
     change Yg r1 y3 y4 y5 = some _ at h
     show Run _ _ _ [(1, (sl Qb).slot y3), (4, val (.pointer (some ⟨b1, 0, none⟩))), (6, val (.pointer (some ⟨b2, 0, none⟩))), (7, (sl i64).slot r1), (8, i64.slot y4)] [box b2 148 (prod i64 (prod i64 (exv v1))) (p_from, w64 (p_from + (p_l.length : Int)), ()), own 23 Qb v1 y5, box b1 148 Jn (0, 0, ([] : List Qa))]
     unfold Yg at h
     refine rs <| rs <| rt <| jm ?_
     refine jm ?_
     refine jq (QX (sz := 1) (ht rfl) (by kernel_rfl)) ?_
     refine jq (Q7 (ht rfl) (ht rfl)) ?_
     refine Qd <| Qn (ht rfl) (fun e7 => ?_) (fun e7 => ?_)
     ·replace h := bt e7 h
      refine Qm <| rs <| QJ <| rs ?_
      obtain ⟨x1, e8, h⟩ := bs h
      obtain ⟨x2, e9, h⟩ := bs h
      obtain ⟨r2, e10, h⟩ := bs h
      refine rd (n := 10) (.p (pfp (off := 2) (ht rfl)) <| .p (plb (ht rfl) .here (.t .a (.t .s .s))) <| .m rfl <| .m rfl <| .m rfl <| .p (pix (ht rfl) (ht rfl) Qh e8) <| .p (plt (ht rfl)) <| .p (ZH (ht rfl) .no (.yes (ht rfl) Qh) e9 (by kernel_rfl)) <| .p (pc tl1 (UN e10)) <| .p (QT (T := 23) (R := Qb) (.cons (ht rfl) .nil) rfl (by kernel_rfl) (by kernel_rfl)) <| .nil) (Je (Γ' := [(1, (sl Qb).slot y3), (4, val (.pointer (some ⟨b1, 0, none⟩))), (6, val (.pointer (some ⟨b2, 0, none⟩))), (7, (sl i64).slot r1), (8, i64.slot y4), (41, ov v1), (49, (sl Qb).slot ([r2]))]) (H' := [box b2 148 (prod i64 (prod i64 (exv v1))) (p_from, w64 (p_from + (p_l.length : Int)), ()), own 23 Qb v1 y5, box b1 148 Jn (0, 0, ([] : List Qa))]) .k7 .h3 ?_)
      obtain ⟨e11, h⟩ := QS h
      refine JQ (T := 23) (E := 23) (ht rfl) (.next .here) (JE (ht rfl)) (by kernel_rfl) (by kernel_rfl) e11 rfl fun v2 => ?_
      refine jq (pfp (off := 2) (ht rfl)) ?_
      refine U4 (p_from, w64 (p_from + (p_l.length : Int)), ()) (ht rfl) (ht rfl) (.next .here) (KV i64 p_from (KV i64 (w64 (p_from + (p_l.length : Int))) qa)) (by kernel_rfl) ?_
      refine Qd <| rt <| jm ?_
      refine jm ?_
      refine jm ?_
      obtain ⟨x3, e12, h⟩ := bs h
      refine jq (pix (ht rfl) (ht rfl) Qh e12) ?_
      refine jl ?_
      obtain ⟨x4, e13, h⟩ := bs h
      refine jq (ZH (ht rfl) (.yes (ht rfl) Qh) .no e13 (by kernel_rfl)) ?_
      refine ja ?_
      refine Qd <| Qs <| rt <| jm ?_
      refine jq (QW (ht rfl) Qe) ?_
      refine ja ?_
      refine Qd ?_
      obtain rfl := oi h
      exact QZ v2 .k5 .h3
     ·replace h := bf e7 h
      obtain rfl := oi h
      exact Jf v1 .k5 .h3
    ·rintro v3
     show Run _ _ _ [(1, (sl Qb).slot y6), (4, val (.pointer (some ⟨b1, 0, none⟩))), (6, val (.pointer (some ⟨b2, 0, none⟩))), (7, (sl i64).slot r1), (8, i64.slot y7)] [box b2 148 (prod i64 (prod i64 (exv v3))) (p_from, w64 (p_from + (p_l.length : Int)), ()), own 23 Qb v3 y8, box b1 148 Jn (0, 0, ([] : List Qa))]
     refine Q9 (Γ' := [(4, val (.pointer (some ⟨b1, 0, none⟩))), (6, val (.pointer (some ⟨b2, 0, none⟩)))]) (H' := [box b2 148 (prod i64 (prod i64 (exv v3))) (p_from, w64 (p_from + (p_l.length : Int)), ()), own 23 Qb v3 y8, box b1 148 Jn (0, 0, ([] : List Qa))]) .k2 .h3 ?_
     refine rs <| rt <| QfN (p_from, w64 (p_from + (p_l.length : Int)), y8) (.next .here) .here (Jt i64 p_from (Jt i64 (w64 (p_from + (p_l.length : Int))) Xv)) ?_
     refine jq (plb (ht rfl) .here .a) ?_
     obtain ⟨x5, e15, h⟩ := bs h
     refine ZF (r' := x5) (ht rfl) (ht rfl) (.next .here) .a (by kernel_rfl) (oi e15) ?_
     refine jq (pa Qe) ?_
     refine Qd ?_
     obtain rfl := oi h
     exact Qo fun a w hst => JV hst rfl (.cons (.cell rfl .here (by kernel_rfl)) <| .cons (.tmp rfl) <| .nil) rfl () (fun _ _ h => h) (.nil)
  ·rcases Jl (y1) with e3 | e3
   ·replace e4 := bt e3 e4
    refine jN e3 ?_
    refine jN e3 ?_
    refine jN e3 ?_
    refine jN e3 ?_
    refine jN e3 ?_
    refine jq (pk1 e3 QU (oi e4)) ?_
    exact Je .k4 .h1 (J ())
   ·replace e4 := bf e3 e4
    refine jz (pm (ht rfl)) e3 ?_
    refine jz (QX (sz := 32) (ht rfl) (by kernel_rfl)) e3 ?_
    refine jz (pm (ht rfl)) e3 ?_
    refine jz (JS Qe (ht rfl)) e3 ?_
    refine jz (Xt (ht rfl) (ht rfl)) e3 ?_
    refine jq (pk2 e3 (ht rfl) (oi e4)) ?_
    exact Je .k4 .h1 (J ())
 ·rcases Jl (decide (p_from < (0 : Int))) with e1 | e1
  ·replace e2 := bt e1 e2
   refine jN e1 ?_
   refine jN e1 ?_
   refine jq (pk1 e1 QU (oi e2)) ?_
   exact Je .k4 .h1 (J ())
  ·replace e2 := bf e1 e2
   refine jz (pm (ht rfl)) e1 ?_
   refine jz (Xt (ht rfl) Qe) e1 ?_
   refine jq (pk2 e1 (ht rfl) (oi e2)) ?_
   exact Je .k4 .h1 (J ())
theorem Bt {G : GP} {p_l : List Qa} {p_m : Int} {r : VT × Int} (h : Y7 p_l p_m = some r) : Ctr Tryz.prog G 39 [(sl Qb).slot p_l, i64.slot p_m] [] (fun (_ : Unit) => tup [ZN.slot r.1, i64.slot r.2]) (fun (_ : Unit) => []) := by
 unfold Y7 at h
 refine Qp Tryz.func39 rfl 39 rfl rfl fun m0 w0 b0 => ?_
 show Run _ _ _ [(0, (sl Qb).slot p_l), (1, i64.slot p_m)] _
 refine rs <| rt <| al (x := (([] : List Qa), ([] : List Qa))) (R := ZN) (Qk Jp Jp) fun b1 => ?_
 refine jq (pa Qe) ?_
 refine Qd <| rs <| rs <| rt <| jm ?_
 refine jq (Q7 (ht rfl) Qe) ?_
 refine jm ?_
 obtain ⟨y1, e2, h⟩ := bs h
 refine Jz (ι := Unit) (Γ' := fun _ => [(0, (sl Qb).slot p_l), (1, i64.slot p_m), (4, val (.pointer (some ⟨b1, 0, none⟩))), (17, bl.slot y1)]) (H' := fun _ => [box b1 46 ZN (([] : List Qa), ([] : List Qa))]) 5 ?_ fun J => ?_
 ·intro _
  clear e2
  show Jc _ _ _ [(0, (sl Qb).slot p_l), (1, i64.slot p_m), (4, val (.pointer (some ⟨b1, 0, none⟩))), (17, bl.slot y1)] [box b1 46 ZN (([] : List Qa), ([] : List Qa))] _
  refine Qd <| Qn (ht rfl) (fun e3 => ?_) (fun e3 => ?_)
  ·replace h := bt e3 h
   refine rs <| rt <| jq (JZ (R := ZN) (Qk Jp Jp) (by kernel_rfl) (by kernel_rfl) rfl .nil) ?_
   obtain ⟨x1, e4, h⟩ := bs h
   refine ZF (r' := x1) (ht rfl) (ht rfl) .here .a (by kernel_rfl) (oi e4) ?_
   refine jq (pa Qe) ?_
   refine Qd ?_
   obtain rfl := oi h
   exact Qo fun a w hst => JV hst rfl (.cons (.cell rfl .here (by kernel_rfl)) <| .cons (.tmp rfl) <| .nil) rfl () (fun _ _ h => h) (.nil)
  ·replace h := bf e3 h
   refine Qm <| rs <| rt <| jm ?_
   refine jm ?_
   obtain ⟨x2, e5, h⟩ := bs h
   refine jq (ZH (ht rfl) .no (.yes (ht rfl) Qh) e5 (by kernel_rfl)) ?_
   obtain ⟨r1, e6, h⟩ := bs h
   refine jq (pc (hc Qe <| hc (ht rfl) <| Q3) (Wx e6)) ?_
   refine jm ?_
   refine jx ?_
   refine jx ?_
   refine al (x := (0, 0, ([] : List Qa))) (R := Jn) (Qk Qx (Qk Qx Jp)) fun b2 => ?_
   refine jk (r' := r1.1) (ht rfl) (ht rfl) .here .a ?_
   refine Jd (t := 6) .here (.of_lk rfl) ?_
   refine ja ?_
   refine Qd <| rs <| rt <| jm ?_
   refine jm ?_
   refine jm ?_
   obtain ⟨x3, e7, h⟩ := bs h
   refine jq (ZH (ht rfl) (.yes (ht rfl) Qh) .no e7 (by kernel_rfl)) ?_
   obtain ⟨r2, e8, h⟩ := bs h
   refine jq (pc tl2 (Wx e8)) ?_
   refine jm ?_
   refine jx ?_
   refine jx ?_
   refine al (x := (0, 0, ([] : List Qa))) (R := Jn) (Qk Qx (Qk Qx Jp)) fun b3 => ?_
   refine jk (r' := r2.1) (ht rfl) (ht rfl) .here .a ?_
   refine Jd (t := 8) .here (.of_lk rfl) ?_
   refine ja ?_
   refine Qd <| rs <| rt <| jq (pft (ht rfl) (.t .s .s)) ?_
   refine jl ?_
   refine jq (pft (ht rfl) (.t .s .s)) ?_
   refine jl ?_
   obtain ⟨x4, e9, h⟩ := bs h
   refine jq (PJ.eqv (JZ (R := ZN) (Qk Jp Jp) (by kernel_rfl) (by kernel_rfl) rfl (.cons (ht rfl) .f (by kernel_rfl) (.cons (ht rfl) .s (by kernel_rfl) .nil))) (oi e9)) ?_
   refine jk (r' := x4) (ht rfl) (ht rfl) .here .a ?_
   refine jq (pa Qe) ?_
   refine Qd ?_
   obtain rfl := oi h
   exact Qo fun a w hst => JV hst rfl (.cons (.cell rfl .here (by kernel_rfl)) <| .cons (.tmp rfl) <| .nil) rfl () (fun _ _ h => h) (.nil)
 ·rcases Jl (decide (p_m < (0 : Int))) with e1 | e1
  ·replace e2 := bt e1 e2
   refine jN e1 ?_
   refine jN e1 ?_
   refine jN e1 ?_
   refine jN e1 ?_
   refine jq (pk1 e1 QU (oi e2)) ?_
   exact Je .k4 .h1 (J ())
  ·replace e2 := bf e1 e2
   refine jz (pm (ht rfl)) e1 ?_
   refine jz (pm (ht rfl)) e1 ?_
   refine jz (QX (sz := 32) (ht rfl) (by kernel_rfl)) e1 ?_
   refine jz (Xt (ht rfl) (ht rfl)) e1 ?_
   refine jq (pk2 e1 (ht rfl) (oi e2)) ?_
   exact Je .k4 .h1 (J ())
theorem qv {G : GP} {p_p : (List (BitVec 8)) × (List Qr) × (List Qw) × (List QB)} {b_p : Nat} {v_p1 : Value} {v_p2 : Value} {v_p3 : Value} {hx0 : Hp} {hx1 : Hp} {hx2 : Hp} {hx3 : Hp} {r : (List Qw)} (h : XD p_p = some r) : Ctr Tryz.prog G 40 [val (.pointer (some ⟨b_p, 0, none⟩))] [exE (box b_p 116 (prod (sl u8) (prod (exv v_p1) (prod (exv v_p2) (exv v_p3)))) (p_p.1, (), (), ())) hx0, exE (own 33 Qg v_p1 p_p.2.1) hx1, exE (own 123 Qj v_p2 p_p.2.2.1) hx2, exE (own 130 Ql v_p3 p_p.2.2.2) hx3] (fun (u0 : Value) => ov u0) (fun (u0 : Value) => [exE (box b_p 116 (prod (sl u8) (prod (exv v_p1) (prod (exv v_p2) (exv v_p3)))) (p_p.1, (), (), ())) hx0, exE (own 33 Qg v_p1 p_p.2.1) hx1, exE (own 123 Qj v_p2 p_p.2.2.1) hx2, exE (own 130 Ql v_p3 p_p.2.2.2) hx3, own 123 Qj u0 r]) := by
 unfold XD at h
 refine Qp Tryz.func40 rfl 29 rfl rfl fun m0 w0 b0 => ?_
 show Run _ _ _ [(0, val (.pointer (some ⟨b_p, 0, none⟩)))] _
 refine rs <| rt <| QN (T := 123) Qj rfl fun v1 => ?_
 refine Qd <| rs <| rs <| rt <| jq (PJ.xe (Jh (QM (QM (QM (QM JF))))) (pm (ht rfl))) ?_
 refine jq (PJ.xe (Jh (QM (QM (QM (QM JF))))) (Zl (E := 116) (by kernel_rfl) (ht rfl))) ?_
 refine Qd <| Yi (ht rfl) rfl ?_
 refine Qm <| rs <| rt <| QN (T := 123) Qj rfl fun v2 => ?_
 refine Qd <| rs <| rs <| rt <| jq (PJ.xe (Jh (Jh (QM (QM (QM (QM JF)))))) (pm (ht rfl))) ?_
 refine jq (PJ.xe (Jh (Jh (QM (QM (QM (QM JF)))))) (Qv (ht rfl))) ?_
 refine jq (PJ.xe (Jh (Jh (QM (QM (QM (QM JF)))))) (pfp (off := 2) (ht rfl))) ?_
 refine jq (PJ.xe (Jh (Jh (QM (QM (QM (QM JF)))))) (plb (ht rfl) (.next (.next .here)) (.t .a (.t .s (.t .s .f))))) ?_
 refine jq (PJ.xe (Jh (Jh (QM (QM (QM (QM JF)))))) (YP (sz := 134) (ht rfl) (.next (.next (.next (.next .here)))) (by kernel_rfl))) ?_
 refine jq (PJ.xe (Jh (Jh (QM (QM (QM (QM JF)))))) (pm Qe)) ?_
 refine Qd ?_
 obtain ⟨⟨y3, y4⟩, e8, h⟩ := bs h
 refine Q2 (Γi := fun (i : Value) (s : Int × (List Qw)) => [(3, ov i), (11, ov v_p2), (12, i64.slot (p_p.2.2.1.length : Int)), (13, i64.slot s.1)]) (Hi := fun (i : Value) (s : Int × (List Qw)) => [own 123 Qj i s.2, exE (box b_p 116 (prod (sl u8) (prod (exv v_p1) (prod (exv v_p2) (exv v_p3)))) (p_p.1, (), (), ())) hx0, exE (own 33 Qg v_p1 p_p.2.1) hx1, exE (own 123 Qj v_p2 p_p.2.2.1) hx2, exE (own 130 Ql v_p3 p_p.2.2.2) hx3]) e8 v2 (fun a w hst => (hst.sub .k4).keep (.cons .here <| .cons (.next .here) <| .cons (.next .here) <| .cons (.next .here) <| .cons (.next .here) <| .nil)) ?_ ?_
 ·clear h e8
  rintro v3 ⟨y1, y2⟩ lr h
  change Yn p_p y1 y2 = some _ at h
  show Run _ _ _ [(3, ov v3), (11, ov v_p2), (12, i64.slot (p_p.2.2.1.length : Int)), (13, i64.slot y1)] [own 123 Qj v3 y2, exE (box b_p 116 (prod (sl u8) (prod (exv v_p1) (prod (exv v_p2) (exv v_p3)))) (p_p.1, (), (), ())) hx0, exE (own 33 Qg v_p1 p_p.2.1) hx1, exE (own 123 Qj v_p2 p_p.2.2.1) hx2, exE (own 130 Ql v_p3 p_p.2.2.2) hx3]
  unfold Yn at h
  refine rs <| rt <| jq (PJ.xe (Jh (QM (QM (QM (QM JF))))) (Q7 (ht rfl) (ht rfl))) ?_
  refine Qd <| rs <| Qn (ht rfl) (fun e2 => ?_) (fun e2 => ?_)
  ·replace h := bt e2 h
   refine Qm <| rs <| QJ <| rs <| rt ?_
   obtain ⟨x1, e3, h⟩ := bs h
   refine jq (PJ.xe (Jh (QM (QM (QM (QM JF))))) (J8 (ht rfl) (.next (.next (.next .here))) (ht rfl) Qh (Q4 e3).1 (Q4 e3).2.1 (by kernel_rfl))) ?_
   refine jq (PJ.xe (Jh (QM (QM (QM (QM JF))))) (PJ.eqv (YW Qj (y1.toNat) (ht rfl) (.next (.next (.next .here))) (Q4 e3).2.1 (by kernel_rfl)) (Ul e3 (Q4 e3).2.1))) ?_
   refine al (x := (((0, 0, (Vector.replicate 32 (0#8)), (Vector.replicate 32 (0#8))), ([] : List (BitVec 8))), ((0, 0, (Vector.replicate 32 (0#8)), (Vector.replicate 32 (0#8))), ([] : List (BitVec 8))))) (R := Qj) (Qk (Qk (Qk Qx (Qk Qx (Qk (QA 32 QH) (QA 32 QH)))) Jp) (Qk (Qk Qx (Qk Qx (Qk (QA 32 QH) (QA 32 QH)))) Jp)) fun b1 => ?_
   refine jk (r' := x1) (ht rfl) (ht rfl) .here .a ?_
   refine Jd (t := 5) .here (.of_lk rfl) ?_
   refine Qd ?_
   obtain ⟨r1, e4, h⟩ := bs h
   obtain ⟨r2, e5, h⟩ := bs h
   obtain ⟨x2, e6, h⟩ := bs h
   refine rd (n := 9) (.p (PJ.xe (Jh (QM (QM (QM (QM JF))))) (pm (ht rfl))) <| .p (PJ.xe (Jh (QM (QM (QM (QM JF))))) (pft (ht rfl) .f)) <| .p (PJ.xe (Jh (QM (QM (QM (QM JF))))) (plt (ht rfl))) <| .p (PJ.xe (Jh (QM (QM (QM (QM JF))))) (pc tl1 (Xz e4))) <| .p (PJ.xe (Jh (QM (QM (QM (QM JF))))) (pft (ht rfl) .s)) <| .p (PJ.xe (Jh (QM (QM (QM (QM JF))))) (plt (ht rfl))) <| .p (PJ.xe (Jh (QM (QM (QM (QM JF))))) (pc tl1 (Xz e5))) <| .p (PJ.xe (Jh (QM (QM (QM (QM JF))))) (PJ.eqv (JZ (R := Qj) (Qk (Qk (Qk Qx (Qk Qx (Qk (QA 32 QH) (QA 32 QH)))) Jp) (Qk (Qk Qx (Qk Qx (Qk (QA 32 QH) (QA 32 QH)))) Jp)) (by kernel_rfl) (by kernel_rfl) rfl (.cons (ht rfl) .f (by kernel_rfl) (.cons (ht rfl) .s (by kernel_rfl) .nil))) (oi e6))) <| .p (PJ.xe (Jh (QM (QM (QM (QM JF))))) (QT (T := 123) (R := Qj) (.cons (ht rfl) .nil) rfl (by kernel_rfl) (by kernel_rfl))) <| .nil) (Je (Γ' := [(11, ov v_p2), (12, i64.slot (p_p.2.2.1.length : Int)), (13, i64.slot y1), (17, ov v3), (25, (sl Qj).slot ([x2]))]) (H' := [own 123 Qj v3 y2, exE (box b_p 116 (prod (sl u8) (prod (exv v_p1) (prod (exv v_p2) (exv v_p3)))) (p_p.1, (), (), ())) hx0, exE (own 33 Qg v_p1 p_p.2.1) hx1, exE (own 123 Qj v_p2 p_p.2.2.1) hx2, exE (own 130 Ql v_p3 p_p.2.2.2) hx3]) .k5 .h5 ?_)
   obtain ⟨e7, h⟩ := QS h
   refine JQ (T := 123) (E := 123) (ht rfl) .here (JE (ht rfl)) (by kernel_rfl) (by kernel_rfl) e7 rfl fun v4 => ?_
   refine jq (PJ.xe (Jh (QM (QM (QM (QM JF))))) (pa (ht rfl))) ?_
   refine Qd <| Qs <| rt <| jq (PJ.xe (Jh (QM (QM (QM (QM JF))))) (QW (ht rfl) Qe)) ?_
   refine jq (PJ.xe (Jh (QM (QM (QM (QM JF))))) (pm (ht rfl))) ?_
   refine Qd ?_
   obtain rfl := oi h
   exact QZ v4 .k4 .h5
  ·replace h := bf e2 h
   obtain rfl := oi h
   exact Jf v3 .k4 .h5
 ·rintro v5
  show Run _ _ _ [(3, ov v5), (11, ov v_p2), (12, i64.slot (p_p.2.2.1.length : Int)), (13, i64.slot y3)] [own 123 Qj v5 y4, exE (box b_p 116 (prod (sl u8) (prod (exv v_p1) (prod (exv v_p2) (exv v_p3)))) (p_p.1, (), (), ())) hx0, exE (own 33 Qg v_p1 p_p.2.1) hx1, exE (own 123 Qj v_p2 p_p.2.2.1) hx2, exE (own 130 Ql v_p3 p_p.2.2.2) hx3]
  refine Q9 (Γ' := [(3, ov v5)]) (H' := [own 123 Qj v5 y4, exE (box b_p 116 (prod (sl u8) (prod (exv v_p1) (prod (exv v_p2) (exv v_p3)))) (p_p.1, (), (), ())) hx0, exE (own 33 Qg v_p1 p_p.2.1) hx1, exE (own 123 Qj v_p2 p_p.2.2.1) hx2, exE (own 130 Ql v_p3 p_p.2.2.2) hx3]) .k1 .h5 ?_
  refine rs <| rt <| jq (PJ.xe (Jh (QM (QM (QM (QM JF))))) (pm (ht rfl))) ?_
  refine jq (PJ.xe (Jh (QM (QM (QM (QM JF))))) (pa (ht rfl))) ?_
  refine Qd ?_
  obtain rfl := oi h
  exact Qo fun a w hst => QL hst rfl (.tmp rfl) v5 (fun _ _ h => h) (.cons (.next .here) <| .cons (.next .here) <| .cons (.next .here) <| .cons (.next .here) <| .cons .here <| .nil)
theorem UV {G : GP} (hg0 : HG0 G) (hg1 : HG1 G) (hg2 : HG2 G) (hg3 : HG3 G) (hg4 : HG4 G) {p_order : List (BitVec 8)} {r : Bool} (h : ZZ p_order = some r) : Ctr Tryz.prog G 6 [(sl u8).slot p_order] [] (fun (_ : Unit) => bl.slot r) (fun (_ : Unit) => []) := by
 unfold ZZ at h
 refine Qp Tryz.func6 rfl 129 rfl rfl fun m0 w0 b0 => ?_
 refine Wa fun Qf hq1 hq2 => ?_
 show Run _ _ _ [(0, (sl u8).slot p_order)] _
 refine rs <| rt <| jq (pa QU) ?_
 refine Qd <| rs <| rs <| rt ?_
 obtain ⟨r1, e1, h⟩ := bs h
 refine jq (pc (Q3) (Us hg0 hg1 hg2 e1)) ?_
 refine jq (ZI (ht rfl)) ?_
 refine jm ?_
 obtain ⟨y1, e3, h⟩ := bs h
 refine Jz (ι := Unit) (Γ' := fun _ => [(0, (sl u8).slot p_order), (22, bl.slot y1)]) (H' := fun _ => []) 4 ?_ fun J => ?_
 ·intro _
  clear e3
  show Jc _ _ _ [(0, (sl u8).slot p_order), (22, bl.slot y1)] [] _
  refine Qd <| Qn (ht rfl) (fun e4 => ?_) (fun e4 => ?_)
  ·replace h := bt e4 h
   refine rs <| rt ?_
   obtain ⟨r2, e5, h⟩ := bs h
   refine jq (pc (Q3) (Us hg0 hg1 hg2 e5)) ?_
   refine ja ?_
   refine Qd ?_
   obtain rfl := oi h
   exact Qo fun a w hst => QL hst rfl (.tmp rfl) () (fun _ _ h => h) (.nil)
  ·replace h := bf e4 h
   refine Qm <| rs <| rt ?_
   obtain ⟨r3, e6, h⟩ := bs h
   refine jc (Q3) (K4 hg0 hg1 hg2 e6) .nil fun b1 => ?_
   refine ja ?_
   refine Qd <| rs <| rt <| jm ?_
   obtain ⟨r4, e7, h⟩ := bs h
   refine jq (Vo tl1 .here (by kernel_rfl) (Ctr.frozeR (fun _ => (UJ e7)))) ?_
   obtain ⟨r5, e8, h⟩ := bs h
   refine jc tl1 (Qal e8) .nil fun ⟨b2, v1, v2, v3⟩ => ?_
   refine ja ?_
   refine Qd <| rs <| rt <| al (x := (Vector.replicate 9 false)) (R := (vec 9 bl)) (QA 9 Bf) fun b3 => ?_
   refine Qd <| rs <| rs <| rt <| jq (pa Qe) ?_
   refine Qd ?_
   obtain ⟨o, e25, h⟩ := bs h
   refine VZ (Γi := fun (i : Value × Value × Value) (s : Int × (Vector Bool 9) × (List (BitVec 8)) × (List Qr) × (List Qw) × (List QB) × Int × Int × Qa × (Option Qy) × (Option Qy) × Int) => [(0, (sl u8).slot p_order), (3, val (.pointer (some ⟨b1, 0, none⟩))), (4, val (.pointer (some ⟨b2, 0, none⟩))), (5, val (.pointer (some ⟨b3, 0, none⟩))), (6, i64.slot s.1)]) (Hi := fun (i : Value × Value × Value) (s : Int × (Vector Bool 9) × (List (BitVec 8)) × (List Qr) × (List Qw) × (List QB) × Int × Int × Qa × (Option Qy) × (Option Qy) × Int) => [box b3 84 (vec 9 bl) s.2.1, box b2 116 (prod (sl u8) (prod (exv i.1) (prod (exv i.2.1) (exv i.2.2)))) (s.2.2.1, (), (), ()), own 33 Qg i.1 s.2.2.2.1, own 123 Qj i.2.1 s.2.2.2.2.1, own 130 Ql i.2.2 s.2.2.2.2.2.1, box b1 102 (prod i64 (prod i64 (prod Qb (prod (ptr QI) (prod (ptr QI) i64))))) (s.2.2.2.2.2.2.1, s.2.2.2.2.2.2.2.1, s.2.2.2.2.2.2.2.2.1, s.2.2.2.2.2.2.2.2.2.1, s.2.2.2.2.2.2.2.2.2.2.1, s.2.2.2.2.2.2.2.2.2.2.2)]) (R := fun x a w => x = r → Qf a w) e25 ⟨v1, v2, v3⟩ (fun a w hst => (hst.sub .k5).keep .h6) ?_ ?_ ?_
   ·clear h e25
    rintro ⟨v4, v5, v6⟩ ⟨y2, y3, y4, y5, y6, y7, y8, y9, y10, y11, y12, y13⟩ lr h
    change J5 p_order y2 y3 y4 y5 y6 y7 y8 y9 y10 y11 y12 y13 = some _ at h
    show Run _ _ _ [(0, (sl u8).slot p_order), (3, val (.pointer (some ⟨b1, 0, none⟩))), (4, val (.pointer (some ⟨b2, 0, none⟩))), (5, val (.pointer (some ⟨b3, 0, none⟩))), (6, i64.slot y2)] [box b3 84 (vec 9 bl) y3, box b2 116 (prod (sl u8) (prod (exv v4) (prod (exv v5) (exv v6)))) (y4, (), (), ()), own 33 Qg v4 y5, own 123 Qj v5 y6, own 130 Ql v6 y7, box b1 102 (prod i64 (prod i64 (prod Qb (prod (ptr QI) (prod (ptr QI) i64))))) (y8, y9, y10, y11, y12, y13)]
    unfold J5 at h
    refine rs <| rs <| rt <| jm ?_
    refine jm ?_
    refine jq (QX (sz := 1) (ht rfl) (by kernel_rfl)) ?_
    refine jq (Q7 (ht rfl) (ht rfl)) ?_
    refine Qd <| Qn (ht rfl) (fun e9 => ?_) (fun e9 => ?_)
    ·replace h := bt e9 h
     refine Qm <| rs <| QJ <| rs <| rt <| jm ?_
     refine jm ?_
     obtain ⟨x1, e10, h⟩ := bs h
     refine jq (pix (ht rfl) (ht rfl) Qh e10) ?_
     refine jl ?_
     refine jq (Qb2 (k := .u8) (b := 8) (ht rfl) (QE (x := 8#8) rfl) (by decide)) ?_
     refine jq (YQ (by decide) (by kernel_rfl) (ht rfl)) ?_
     refine jq (QW Qe (ht rfl)) ?_
     obtain ⟨x2, e11, h⟩ := bs h
     refine jq (PJ.eqv (pa (ht rfl)) (oi e11)) ?_
     refine Qd <| rs <| rt <| jm ?_
     refine jm ?_
     refine jm ?_
     obtain ⟨r6, e12, h⟩ := bs h
     refine jq (pc tl1 (Ctr.froze (KX e12))) ?_
     obtain ⟨r7, e13, h⟩ := bs h
     refine jq (pc tl1 (UN e13)) ?_
     obtain ⟨x3, e14, h⟩ := bs h
     refine jq (PJ.eqv (JZ (R := X0) (Qk Qx (Qk Qx (Qk (QA 32 QH) (QA 32 QH)))) (by kernel_rfl) (by kernel_rfl) rfl (.cons (ht rfl) .f (by kernel_rfl) (.cons Qe (.t .s .f) (by kernel_rfl) (.cons (ht rfl) (.t .s (.t .s .s)) (by kernel_rfl) .nil)))) (oi e14)) ?_
     obtain ⟨r8, e15, h⟩ := bs h
     refine jc tl2 (K6 hg0 hg1 hg2 e15) (.cons (.next (.next (.next (.next (.next .here))))) <| .nil) fun _ => ?_
     refine al (x := ((0, 0, (Vector.replicate 32 (0#8)), (Vector.replicate 32 (0#8))), ([] : List (BitVec 8)))) (R := Qg) (Qk (Qk Qx (Qk Qx (Qk (QA 32 QH) (QA 32 QH)))) Jp) fun b4 => ?_
     refine jk (r' := r8.2) (ht rfl) (ht rfl) .here .a ?_
     refine Jd (t := 8) .here (.of_lk rfl) ?_
     refine Qd <| rs <| rt <| jm ?_
     refine jl ?_
     obtain ⟨r9, e16, h⟩ := bs h
     refine jc tl2 (Wp hg0 hg1 hg2 e16) (.cons (.next (.next .here)) <| .cons (.next (.next .here)) <| .cons (.next (.next .here)) <| .cons (.next (.next .here)) <| .nil) fun ⟨v7, v8, v9⟩ => ?_
     refine ja ?_
     refine Qd <| rs <| rs <| rt <| jm ?_
     refine jq (ZJ (ht rfl) Qe) ?_
     refine jm ?_
     obtain ⟨x4, e17, h⟩ := bs h
     refine jq (Qq (n := 9) (sz := 1) (ht rfl) (ht rfl) Qh (QF e17).1 (ZT e17) (by kernel_rfl)) ?_
     refine jq (PJ.eqv (plb (ht rfl) (.next (.next (.next (.next (.next .here))))) (.t .a (Path.atI 9 bl x2.toNat (QF e17).2.1))) (ZW e17 (QF e17).2.1)) ?_
     refine jq (ZI (ht rfl)) ?_
     refine jq (QgY (by kernel_rfl) (ht rfl) (ht rfl)) ?_
     refine jm ?_
     obtain ⟨y14, e19, h⟩ := bs h
     refine Jz (ι := Unit) (Γ' := fun _ => [(0, (sl u8).slot p_order), (3, val (.pointer (some ⟨b1, 0, none⟩))), (4, val (.pointer (some ⟨b2, 0, none⟩))), (5, val (.pointer (some ⟨b3, 0, none⟩))), (6, i64.slot y2), (7, i64.slot x2), (66, bl.slot y14)]) (H' := fun _ => [box b2 116 (prod (sl u8) (prod (exv v7) (prod (exv v8) (exv v9)))) (r9.1.1, (), (), ()), own 33 Qg v7 r9.1.2.1, own 123 Qj v8 r9.1.2.2.1, own 130 Ql v9 r9.1.2.2.2, box b1 102 (prod i64 (prod i64 (prod Qb (prod (ptr QI) (prod (ptr QI) i64))))) (r8.1.1, r8.1.2.1, r8.1.2.2.1, r8.1.2.2.2.1, r8.1.2.2.2.2.1, r8.1.2.2.2.2.2), box b3 84 (vec 9 bl) y3]) 8 ?_ fun J => ?_
     ·intro _
      clear e19
      show Jc _ _ _ [(0, (sl u8).slot p_order), (3, val (.pointer (some ⟨b1, 0, none⟩))), (4, val (.pointer (some ⟨b2, 0, none⟩))), (5, val (.pointer (some ⟨b3, 0, none⟩))), (6, i64.slot y2), (7, i64.slot x2), (66, bl.slot y14)] [box b2 116 (prod (sl u8) (prod (exv v7) (prod (exv v8) (exv v9)))) (r9.1.1, (), (), ()), own 33 Qg v7 r9.1.2.1, own 123 Qj v8 r9.1.2.2.1, own 130 Ql v9 r9.1.2.2.2, box b1 102 (prod i64 (prod i64 (prod Qb (prod (ptr QI) (prod (ptr QI) i64))))) (r8.1.1, r8.1.2.1, r8.1.2.2.1, r8.1.2.2.2.1, r8.1.2.2.2.2.1, r8.1.2.2.2.2.2), box b3 84 (vec 9 bl) y3] _
      refine Qd <| Qn (ht rfl) (fun e23 => ?_) (fun e23 => ?_)
      ·replace h := bt e23 h
       refine rs <| rt <| jq (pa QU) ?_
       refine Qd ?_
       obtain rfl := oi h
       refine Qo fun a w hst => ⟨rfl, fun hr => ?_⟩
       subst hr
       exact hq2 a w (QL hst rfl (.tmp rfl) () (fun _ _ h => h) (.nil))
      ·replace h := bf e23 h
       refine Qm <| rt <| jm ?_
       obtain ⟨e24, h⟩ := QS h
       refine jq (Qq (n := 9) (sz := 1) (ht rfl) (ht rfl) Qh e24.1 e24.2 (by kernel_rfl)) ?_
       refine jk (r' := (y3.setIfInBounds x2.toNat true)) (ht rfl) QU (.next (.next (.next (.next (.next .here))))) (.t .a (Path.atI 9 bl x2.toNat (Vl e24))) ?_
       refine Qd <| Qs <| rt <| jm ?_
       refine jq (QW (ht rfl) Qe) ?_
       refine ja ?_
       refine Qd ?_
       obtain rfl := oi h
       exact QZ ⟨v7, v8, v9⟩ .k5 .h6
     ·rcases Jl (!((decide (r9.2 = (0 : Int))) == (!x4))) with e18 | e18
      ·replace e19 := bt e18 e19
       refine jN e18 ?_
       refine jN e18 ?_
       refine jN e18 ?_
       refine jN e18 ?_
       refine qG (j := 11) (want := true) rfl rfl rfl rfl rfl ?_
       refine qG (j := 11) (want := true) rfl rfl rfl rfl rfl ?_
       refine jN e18 ?_
       refine jq (pk1 e18 QU (oi e19)) ?_
       exact Je .k7 .h6 (J ())
      ·replace e19 := bf e18 e19
       refine jz (pm (ht rfl)) e18 ?_
       obtain ⟨x5, e20, e19⟩ := bind_some e19
       refine jz (Qq (n := 9) (sz := 1) (ht rfl) (ht rfl) Qh (QF e20).1 (ZT e20) (by kernel_rfl)) e18 ?_
       refine jz (PJ.eqv (plb (ht rfl) (.next (.next (.next (.next (.next .here))))) (.t .a (Path.atI 9 bl x2.toNat (QF e20).2.1))) (ZW e20 (QF e20).2.1)) e18 ?_
       refine jz (pm (ht rfl)) e18 ?_
       obtain ⟨y15, e22, e19⟩ := bind_some e19
       rcases Jl (x5) with e21 | e21
       ·replace e22 := bt e21 e22
        refine jz (pm (ht rfl)) e21 ?_
        refine jz (YG (ht rfl) Qe) e21 ?_
        refine jz (pk1 e21 (ht rfl) (oi e22)) e18 ?_
        refine jq (pk2 e18 (ht rfl) (oi e19)) ?_
        exact Je .k7 .h6 (J ())
       ·replace e22 := bf e21 e22
        refine jn e21 ?_
        refine jn e21 ?_
        refine jz (pk2 e21 QU (oi e22)) e18 ?_
        refine jq (pk2 e18 (ht rfl) (oi e19)) ?_
        exact Je .k7 .h6 (J ())
    ·replace h := bf e9 h
     obtain rfl := oi h
     exact Jf ⟨v4, v5, v6⟩ .k5 .h6
   ·rintro ⟨v10, v11, v12⟩ ⟨y16, y17, y18, y19, y20, y21, y22, y23, y24, y25, y26, y27⟩ ho
    subst ho
    show Run _ _ _ [(0, (sl u8).slot p_order), (3, val (.pointer (some ⟨b1, 0, none⟩))), (4, val (.pointer (some ⟨b2, 0, none⟩))), (5, val (.pointer (some ⟨b3, 0, none⟩))), (6, i64.slot y16)] [box b3 84 (vec 9 bl) y17, box b2 116 (prod (sl u8) (prod (exv v10) (prod (exv v11) (exv v12)))) (y18, (), (), ()), own 33 Qg v10 y19, own 123 Qj v11 y20, own 130 Ql v12 y21, box b1 102 (prod i64 (prod i64 (prod Qb (prod (ptr QI) (prod (ptr QI) i64))))) (y22, y23, y24, y25, y26, y27)]
    refine Q9 (Γ' := [(4, val (.pointer (some ⟨b2, 0, none⟩))), (5, val (.pointer (some ⟨b3, 0, none⟩)))]) (H' := [box b3 84 (vec 9 bl) y17, box b2 116 (prod (sl u8) (prod (exv v10) (prod (exv v11) (exv v12)))) (y18, (), (), ()), own 33 Qg v10 y19, own 123 Qj v11 y20, own 130 Ql v12 y21]) .k2 .h5 ?_
    refine rs <| rt <| jq (pa Qe) ?_
    refine Qd <| rs <| rs <| rt <| jq (pa Qe) ?_
    refine Qd ?_
    obtain ⟨o, e34, h⟩ := bs h
    refine VZ (Γi := fun (i : Value × Value × Value) (s : Int × Int × (List (BitVec 8)) × (List Qr) × (List Qw) × (List QB)) => [(4, val (.pointer (some ⟨b2, 0, none⟩))), (5, val (.pointer (some ⟨b3, 0, none⟩))), (10, i64.slot s.1), (11, i64.slot s.2.1)]) (Hi := fun (i : Value × Value × Value) (s : Int × Int × (List (BitVec 8)) × (List Qr) × (List Qw) × (List QB)) => [box b3 84 (vec 9 bl) y17, box b2 116 (prod (sl u8) (prod (exv i.1) (prod (exv i.2.1) (exv i.2.2)))) (s.2.2.1, (), (), ()), own 33 Qg i.1 s.2.2.2.1, own 123 Qj i.2.1 s.2.2.2.2.1, own 130 Ql i.2.2 s.2.2.2.2.2]) (R := fun x a w => x = r → Qf a w) e34 ⟨v10, v11, v12⟩ (fun a w hst => (hst.sub .k4).keep .h5) ?_ ?_ ?_
    ·clear h e34
     rintro ⟨v13, v14, v15⟩ ⟨y28, y29, y30, y31, y32, y33⟩ lr h
     change J6 y17 y28 y29 y30 y31 y32 y33 = some _ at h
     show Run _ _ _ [(4, val (.pointer (some ⟨b2, 0, none⟩))), (5, val (.pointer (some ⟨b3, 0, none⟩))), (10, i64.slot y28), (11, i64.slot y29)] [box b3 84 (vec 9 bl) y17, box b2 116 (prod (sl u8) (prod (exv v13) (prod (exv v14) (exv v15)))) (y30, (), (), ()), own 33 Qg v13 y31, own 123 Qj v14 y32, own 130 Ql v15 y33]
     unfold J6 at h
     refine rs <| rs <| rt <| jm ?_
     refine jq (KS (ht rfl) Qe) ?_
     refine Qd <| Qn (ht rfl) (fun e26 => ?_) (fun e26 => ?_)
     ·replace h := bt e26 h
      refine Qm <| rs <| QJ <| rs <| rs <| rt <| jm ?_
      obtain ⟨x6, e27, h⟩ := bs h
      refine jq (Qq (n := 9) (sz := 1) (ht rfl) (ht rfl) Qh (QF e27).1 (ZT e27) (by kernel_rfl)) ?_
      refine jq (PJ.eqv (plb (ht rfl) .here (.t .a (Path.atI 9 bl y29.toNat (QF e27).2.1))) (ZW e27 (QF e27).2.1)) ?_
      refine jq (ZI (ht rfl)) ?_
      refine Qd <| Qn (ht rfl) (fun e28 => ?_) (fun e28 => ?_)
      ·replace h := bt e28 h
       refine Qdh ?_
       refine rt <| jm ?_
       refine jq (QW (ht rfl) Qe) ?_
       refine ja ?_
       refine Qd ?_
       obtain rfl := oi h
       exact QZ ⟨v13, v14, v15⟩ .k4 .h5
      ·replace h := bf e28 h
       refine Qm <| rs <| rs <| rt <| jm ?_
       refine jq (Xt (ht rfl) Qe) ?_
       refine Qd <| Qn (ht rfl) (fun e29 => ?_) (fun e29 => ?_)
       ·replace h := bt e29 h
        refine rs <| rt <| jm ?_
        obtain ⟨r10, e30, h⟩ := bs h
        refine jq (pc tl1 (Ctr.froze (KX e30))) ?_
        refine jm ?_
        obtain ⟨r11, e31, h⟩ := bs h
        refine jq (pc tl2 (Bt e31)) ?_
        refine jm ?_
        refine jx ?_
        refine jx ?_
        refine al (x := (([] : List Qa), ([] : List Qa))) (R := ZN) (Qk Jp Jp) fun b5 => ?_
        refine jk (r' := r11.1) (ht rfl) (ht rfl) .here .a ?_
        refine Jd (t := 12) .here (.of_lk rfl) ?_
        refine ja ?_
        refine Qd <| rs <| rt <| jm ?_
        refine jm ?_
        refine jm ?_
        refine jl ?_
        obtain ⟨r12, e32, h⟩ := bs h
        refine jc tl4 (Qah hg1 hg2 hg3 hg4 e32) (.cons (.next .here) <| .cons (.next .here) <| .cons (.next .here) <| .cons (.next .here) <| .nil) fun ⟨v16, v17, v18⟩ => ?_
        refine jq (YG (ht rfl) Qe) ?_
        refine Qd <| Qn (ht rfl) (fun e33 => ?_) (fun e33 => ?_)
        ·replace h := bt e33 h
         refine rs <| rt <| jq (pa QU) ?_
         refine Qd ?_
         obtain rfl := oi h
         refine Qo fun a w hst => ⟨rfl, fun hr => ?_⟩
         subst hr
         exact hq2 a w (QL hst rfl (.tmp rfl) () (fun _ _ h => h) (.nil))
        ·replace h := bf e33 h
         refine Qm <| rt <| jm ?_
         refine ja ?_
         refine Qd <| Qs <| rt <| jm ?_
         refine jq (QW (ht rfl) Qe) ?_
         refine ja ?_
         refine Qd ?_
         obtain rfl := oi h
         exact QZ ⟨v16, v17, v18⟩ .k4 (.cons (.next (.next (.next (.next .here)))) <| .cons .here <| .cons .here <| .cons .here <| .cons .here <| .nil)
       ·replace h := bf e29 h
        refine Qm <| rt <| jm ?_
        refine ja ?_
        refine Qd <| Qs <| rt <| jm ?_
        refine jq (QW (ht rfl) Qe) ?_
        refine ja ?_
        refine Qd ?_
        obtain rfl := oi h
        exact QZ ⟨v13, v14, v15⟩ .k4 .h5
     ·replace h := bf e26 h
      obtain rfl := oi h
      exact Jf ⟨v13, v14, v15⟩ .k4 .h5
    ·rintro ⟨v19, v20, v21⟩ ⟨y34, y35, y36, y37, y38, y39⟩ ho
     subst ho
     show Run _ _ _ [(4, val (.pointer (some ⟨b2, 0, none⟩))), (5, val (.pointer (some ⟨b3, 0, none⟩))), (10, i64.slot y34), (11, i64.slot y35)] [box b3 84 (vec 9 bl) y17, box b2 116 (prod (sl u8) (prod (exv v19) (prod (exv v20) (exv v21)))) (y36, (), (), ()), own 33 Qg v19 y37, own 123 Qj v20 y38, own 130 Ql v21 y39]
     refine Q9 (Γ' := [(4, val (.pointer (some ⟨b2, 0, none⟩))), (5, val (.pointer (some ⟨b3, 0, none⟩)))]) (H' := [box b3 84 (vec 9 bl) y17, box b2 116 (prod (sl u8) (prod (exv v19) (prod (exv v20) (exv v21)))) (y36, (), (), ()), own 33 Qg v19 y37, own 123 Qj v20 y38, own 130 Ql v21 y39]) .k2 .h5 ?_
     refine rs <| rs <| rt <| jq (pa Qe) ?_
     refine Qd ?_
     obtain ⟨o, e46, h⟩ := bs h
     refine VZ (Γi := fun (i : Unit) (s : Int) => [(4, val (.pointer (some ⟨b2, 0, none⟩))), (5, val (.pointer (some ⟨b3, 0, none⟩))), (14, i64.slot s)]) (Hi := fun (i : Unit) (s : Int) => [box b3 84 (vec 9 bl) y17, box b2 116 (prod (sl u8) (prod (exv v19) (prod (exv v20) (exv v21)))) (y36, (), (), ()), own 33 Qg v19 y37, own 123 Qj v20 y38, own 130 Ql v21 y39]) (R := fun x a w => x = r → Qf a w) e46 () (fun a w hst => (hst.sub .k3).keep .h5) ?_ ?_ ?_
     ·clear h e46
      rintro _ y40 lr h
      change J4 y36 y37 y38 y39 y17 y40 = some _ at h
      show Run _ _ _ [(4, val (.pointer (some ⟨b2, 0, none⟩))), (5, val (.pointer (some ⟨b3, 0, none⟩))), (14, i64.slot y40)] [box b3 84 (vec 9 bl) y17, box b2 116 (prod (sl u8) (prod (exv v19) (prod (exv v20) (exv v21)))) (y36, (), (), ()), own 33 Qg v19 y37, own 123 Qj v20 y38, own 130 Ql v21 y39]
      unfold J4 at h
      refine rs <| rs <| rt <| jm ?_
      refine jq (KS (ht rfl) Qe) ?_
      refine Qd <| Qn (ht rfl) (fun e35 => ?_) (fun e35 => ?_)
      ·replace h := bt e35 h
       refine Qm <| rs <| QJ <| rs <| rt <| jq (pa Qe) ?_
       refine Qd ?_
       obtain ⟨o, e45, h⟩ := bs h
       refine VZ (Γi := fun (i : Unit) (s : Int) => [(4, val (.pointer (some ⟨b2, 0, none⟩))), (5, val (.pointer (some ⟨b3, 0, none⟩))), (14, i64.slot y40), (15, i64.slot s)]) (Hi := fun (i : Unit) (s : Int) => [box b3 84 (vec 9 bl) y17, box b2 116 (prod (sl u8) (prod (exv v19) (prod (exv v20) (exv v21)))) (y36, (), (), ()), own 33 Qg v19 y37, own 123 Qj v20 y38, own 130 Ql v21 y39]) (R := fun x a w => x = r → Qf a w) e45 () (fun a w hst => (hst.sub .k4).keep .h5) ?_ ?_ ?_
       ·clear h e45
        rintro _ y41 lr h
        change J3 y36 y37 y38 y39 y40 y17 y41 = some _ at h
        show Run _ _ _ [(4, val (.pointer (some ⟨b2, 0, none⟩))), (5, val (.pointer (some ⟨b3, 0, none⟩))), (14, i64.slot y40), (15, i64.slot y41)] [box b3 84 (vec 9 bl) y17, box b2 116 (prod (sl u8) (prod (exv v19) (prod (exv v20) (exv v21)))) (y36, (), (), ()), own 33 Qg v19 y37, own 123 Qj v20 y38, own 130 Ql v21 y39]
        unfold J3 at h
        refine rs <| rs <| rt <| jm ?_
        refine jq (KS (ht rfl) Qe) ?_
        refine Qd <| Qn (ht rfl) (fun e36 => ?_) (fun e36 => ?_)
        ·replace h := bt e36 h
         refine Qm <| rs <| QJ <| rs ?_
         obtain ⟨r13, e37, h⟩ := bs h
         obtain ⟨x7, e38, h⟩ := bs h
         obtain ⟨y42, e40, h⟩ := bs h
         obtain ⟨y43, e43, h⟩ := bs h
         refine (ql (n := 17) (Γ' := [(4, val (.pointer (some ⟨b2, 0, none⟩))), (5, val (.pointer (some ⟨b3, 0, none⟩))), (14, i64.slot y40), (15, i64.slot y41), (104, bl.slot r13), (117, bl.slot y43)]) (H' := [box b3 84 (vec 9 bl) y17, box b2 116 (prod (sl u8) (prod (exv v19) (prod (exv v20) (exv v21)))) (y36, (), (), ()), own 33 Qg v19 y37, own 123 Qj v20 y38, own 130 Ql v21 y39]) ?_ fun J => ?_)
         ·clear e40 e43
          refine jq (QgY (by kernel_rfl) (ht rfl) (ht rfl)) ?_
          refine Qd <| Qn (ht rfl) (fun e44 => ?_) (fun e44 => ?_)
          ·replace h := bt e44 h
           refine rs <| rt <| jq (pa QU) ?_
           refine Qd ?_
           obtain rfl := oi h
           refine Qo fun a w hst => ⟨rfl, fun hr => ?_⟩
           subst hr
           exact hq2 a w (QL hst rfl (.tmp rfl) () (fun _ _ h => h) (.nil))
          ·replace h := bf e44 h
           refine Qm <| Qs <| rt <| jm ?_
           refine jq (QW (ht rfl) Qe) ?_
           refine ja ?_
           refine Qd ?_
           obtain rfl := oi h
           exact QZ () .k4 .h5
         ·rcases Jl (x7) with e39 | e39
          ·replace e40 := bt e39 e40
           obtain ⟨x8, e41, e40⟩ := bind_some e40
           rcases Jl (y42) with e42 | e42
           ·replace e43 := bt e42 e43
            exact rd (n := 17) (.m rfl <| .m rfl <| .m rfl <| .p (Yo (Q1 (KN (ht rfl) (.next .here) (Zh (.next (.next .here)) (Jt (sl u8) y36 (VE (prod (exv v20) (exv v21)) ((), ()) Xv)) <| Zh (.next (.next (.next .here))) (Jt (sl u8) y36 (Jt (sl Qg) y37 (VE (exv v21) () Xv))) <| Zh (.next (.next (.next (.next .here)))) (Jt (sl u8) y36 (Jt (sl Qg) y37 (Jt (sl Qj) y38 Xv))) <| KJ)) <| Q1 (Yr (ht rfl)) <| Q1 (Yr (ht rfl)) <| Zj) (by kernel_rfl) (YZ e37) (Rep.flat_slot UU _)) <| .m rfl <| .p (Qq (n := 9) (sz := 1) (ht rfl) (ht rfl) Qh (QF e38).1 (ZT e38) (by kernel_rfl)) <| .p (PJ.eqv (plb (ht rfl) .here (.t .a (Path.atI 9 bl y40.toNat (QF e38).2.1))) (ZW e38 (QF e38).2.1)) <| .m rfl <| .read (.yes (gY e39) (pm (ht rfl))) <| .read (.yes (gY e39) (Qq (n := 9) (sz := 1) (ht rfl) (ht rfl) Qh (QF e41).1 (ZT e41) (by kernel_rfl))) <| .read (.yes (gY e39) (PJ.eqv (plb (ht rfl) .here (.t .a (Path.atI 9 bl y41.toNat (QF e41).2.1))) (ZW e41 (QF e41).2.1))) <| .p (pk1 e39 (ht rfl) (oi e40)) <| .m rfl <| .read (.yes (gY e42) (pm (ht rfl))) <| .read (.yes (gY e42) (pm (ht rfl))) <| .read (.yes (gY e42) (KS (ht rfl) (ht rfl))) <| .p (pk1 e42 (ht rfl) (oi e43)) <| .nil) (Je (Γ' := [(4, val (.pointer (some ⟨b2, 0, none⟩))), (5, val (.pointer (some ⟨b3, 0, none⟩))), (14, i64.slot y40), (15, i64.slot y41), (104, bl.slot r13), (117, bl.slot y43)]) (H' := [box b3 84 (vec 9 bl) y17, box b2 116 (prod (sl u8) (prod (exv v19) (prod (exv v20) (exv v21)))) (y36, (), (), ()), own 33 Qg v19 y37, own 123 Qj v20 y38, own 130 Ql v21 y39]) .k6 .h5 J)
           ·replace e43 := bf e42 e43
            exact rd (n := 17) (.m rfl <| .m rfl <| .m rfl <| .p (Yo (Q1 (KN (ht rfl) (.next .here) (Zh (.next (.next .here)) (Jt (sl u8) y36 (VE (prod (exv v20) (exv v21)) ((), ()) Xv)) <| Zh (.next (.next (.next .here))) (Jt (sl u8) y36 (Jt (sl Qg) y37 (VE (exv v21) () Xv))) <| Zh (.next (.next (.next (.next .here)))) (Jt (sl u8) y36 (Jt (sl Qg) y37 (Jt (sl Qj) y38 Xv))) <| KJ)) <| Q1 (Yr (ht rfl)) <| Q1 (Yr (ht rfl)) <| Zj) (by kernel_rfl) (YZ e37) (Rep.flat_slot UU _)) <| .m rfl <| .p (Qq (n := 9) (sz := 1) (ht rfl) (ht rfl) Qh (QF e38).1 (ZT e38) (by kernel_rfl)) <| .p (PJ.eqv (plb (ht rfl) .here (.t .a (Path.atI 9 bl y40.toNat (QF e38).2.1))) (ZW e38 (QF e38).2.1)) <| .m rfl <| .read (.yes (gY e39) (pm (ht rfl))) <| .read (.yes (gY e39) (Qq (n := 9) (sz := 1) (ht rfl) (ht rfl) Qh (QF e41).1 (ZT e41) (by kernel_rfl))) <| .read (.yes (gY e39) (PJ.eqv (plb (ht rfl) .here (.t .a (Path.atI 9 bl y41.toNat (QF e41).2.1))) (ZW e41 (QF e41).2.1))) <| .p (pk1 e39 (ht rfl) (oi e40)) <| .m rfl <| .read (.no (gN e42)) <| .read (.no (gN e42)) <| .read (.no (gN e42)) <| .p (pk2 e42 QU (oi e43)) <| .nil) (Je (Γ' := [(4, val (.pointer (some ⟨b2, 0, none⟩))), (5, val (.pointer (some ⟨b3, 0, none⟩))), (14, i64.slot y40), (15, i64.slot y41), (104, bl.slot r13), (117, bl.slot y43)]) (H' := [box b3 84 (vec 9 bl) y17, box b2 116 (prod (sl u8) (prod (exv v19) (prod (exv v20) (exv v21)))) (y36, (), (), ()), own 33 Qg v19 y37, own 123 Qj v20 y38, own 130 Ql v21 y39]) .k6 .h5 J)
          ·replace e40 := bf e39 e40
           rcases Jl (y42) with e42 | e42
           ·exact absurd ((oi e40).trans e42) (by decide)
           ·replace e43 := bf e42 e43
            exact rd (n := 17) (.m rfl <| .m rfl <| .m rfl <| .p (Yo (Q1 (KN (ht rfl) (.next .here) (Zh (.next (.next .here)) (Jt (sl u8) y36 (VE (prod (exv v20) (exv v21)) ((), ()) Xv)) <| Zh (.next (.next (.next .here))) (Jt (sl u8) y36 (Jt (sl Qg) y37 (VE (exv v21) () Xv))) <| Zh (.next (.next (.next (.next .here)))) (Jt (sl u8) y36 (Jt (sl Qg) y37 (Jt (sl Qj) y38 Xv))) <| KJ)) <| Q1 (Yr (ht rfl)) <| Q1 (Yr (ht rfl)) <| Zj) (by kernel_rfl) (YZ e37) (Rep.flat_slot UU _)) <| .m rfl <| .p (Qq (n := 9) (sz := 1) (ht rfl) (ht rfl) Qh (QF e38).1 (ZT e38) (by kernel_rfl)) <| .p (PJ.eqv (plb (ht rfl) .here (.t .a (Path.atI 9 bl y40.toNat (QF e38).2.1))) (ZW e38 (QF e38).2.1)) <| .m rfl <| .read (.no (gN e39)) <| .read (.no (gN e39)) <| .read (.no (gN e39)) <| .p (pk2 e39 QU (oi e40)) <| .m rfl <| .read (.no (gN e42)) <| .read (.no (gN e42)) <| .read (.no (gN e42)) <| .p (pk2 e42 QU (oi e43)) <| .nil) (Je (Γ' := [(4, val (.pointer (some ⟨b2, 0, none⟩))), (5, val (.pointer (some ⟨b3, 0, none⟩))), (14, i64.slot y40), (15, i64.slot y41), (104, bl.slot r13), (117, bl.slot y43)]) (H' := [box b3 84 (vec 9 bl) y17, box b2 116 (prod (sl u8) (prod (exv v19) (prod (exv v20) (exv v21)))) (y36, (), (), ()), own 33 Qg v19 y37, own 123 Qj v20 y38, own 130 Ql v21 y39]) .k6 .h5 J)
        ·replace h := bf e36 h
         obtain rfl := oi h
         exact Jf () .k4 .h5
       ·rintro _ y44 ho
        subst ho
        show Run _ _ _ [(4, val (.pointer (some ⟨b2, 0, none⟩))), (5, val (.pointer (some ⟨b3, 0, none⟩))), (14, i64.slot y40), (15, i64.slot y44)] [box b3 84 (vec 9 bl) y17, box b2 116 (prod (sl u8) (prod (exv v19) (prod (exv v20) (exv v21)))) (y36, (), (), ()), own 33 Qg v19 y37, own 123 Qj v20 y38, own 130 Ql v21 y39]
        refine Q9 (Γ' := [(4, val (.pointer (some ⟨b2, 0, none⟩))), (5, val (.pointer (some ⟨b3, 0, none⟩))), (14, i64.slot y40)]) (H' := [box b3 84 (vec 9 bl) y17, box b2 116 (prod (sl u8) (prod (exv v19) (prod (exv v20) (exv v21)))) (y36, (), (), ()), own 33 Qg v19 y37, own 123 Qj v20 y38, own 130 Ql v21 y39]) .k3 .h5 ?_
        refine Qs <| rt <| jm ?_
        refine jq (QW (ht rfl) Qe) ?_
        refine ja ?_
        refine Qd ?_
        obtain rfl := oi h
        exact QZ () .k3 .h5
       ·intro x a w ho hR
        subst ho
        obtain rfl := oi h
        exact ⟨rfl, hR⟩
      ·replace h := bf e35 h
       obtain rfl := oi h
       exact Jf () .k3 .h5
     ·rintro _ y45 ho
      subst ho
      show Run _ _ _ [(4, val (.pointer (some ⟨b2, 0, none⟩))), (5, val (.pointer (some ⟨b3, 0, none⟩))), (14, i64.slot y45)] [box b3 84 (vec 9 bl) y17, box b2 116 (prod (sl u8) (prod (exv v19) (prod (exv v20) (exv v21)))) (y36, (), (), ()), own 33 Qg v19 y37, own 123 Qj v20 y38, own 130 Ql v21 y39]
      refine Q9 (Γ' := [(4, val (.pointer (some ⟨b2, 0, none⟩)))]) (H' := [box b2 116 (prod (sl u8) (prod (exv v19) (prod (exv v20) (exv v21)))) (y36, (), (), ()), own 33 Qg v19 y37, own 123 Qj v20 y38, own 130 Ql v21 y39]) .k1 (.cons (.next .here) <| .cons (.next .here) <| .cons (.next .here) <| .cons (.next .here) <| .nil) ?_
      refine rs <| rt <| jm ?_
      obtain ⟨r14, e47, h⟩ := bs h
      refine jq (QdG (Q1 (KN (ht rfl) .here (Zh (.next .here) (Jt (sl u8) y36 (VE (prod (exv v20) (exv v21)) ((), ()) Xv)) <| Zh (.next (.next .here)) (Jt (sl u8) y36 (Jt (sl Qg) y37 (VE (exv v21) () Xv))) <| Zh (.next (.next (.next .here))) (Jt (sl u8) y36 (Jt (sl Qg) y37 (Jt (sl Qj) y38 Xv))) <| KJ)) <| Zj) (by kernel_rfl) (qX e47) (X9 _ QaO)) ?_
      refine jq (QX (sz := 2) (ht rfl) (by kernel_rfl)) ?_
      refine jq (ZJ (ht rfl) Qe) ?_
      refine jm ?_
      obtain ⟨y46, e49, h⟩ := bs h
      refine Jz (ι := Unit) (Γ' := fun _ => [(128, bl.slot y46)]) (H' := fun _ => []) 5 ?_ fun J => ?_
      ·intro _
       clear e49
       show Jc _ _ _ [(128, bl.slot y46)] [] _
       refine ja ?_
       refine Qd ?_
       obtain rfl := oi h
       exact Qo fun a w hst => QL hst rfl (.tmp rfl) () (fun _ _ h => h) (.nil)
      ·rcases Jl (decide ((r14.length : Int) = (0 : Int))) with e48 | e48
       ·replace e49 := bt e48 e49
        refine jz (pm (ht rfl)) e48 ?_
        obtain ⟨r15, e50, e49⟩ := bind_some e49
        refine jz (QdI (fun i : Hp × Hp × Hp × Hp => [exE (box b2 116 (prod (sl u8) (prod (exv v19) (prod (exv v20) (exv v21)))) (y36, (), (), ())) i.1, exE (own 33 Qg v19 y37) i.2.1, exE (own 123 Qj v20 y38) i.2.2.1, exE (own 130 Ql v21 y39) i.2.2.2]) tl1 .h4 QiU QeX (by kernel_rfl) (fun _ => Ctr.frozeL (qv e50))) e48 ?_
        refine jz (QX (sz := 134) (ht rfl) (by kernel_rfl)) e48 ?_
        refine jz (ZJ (ht rfl) Qe) e48 ?_
        refine jq (pk1 e48 (ht rfl) (oi e49)) ?_
        exact Je .k1 (.nil) (J ())
       ·replace e49 := bf e48 e49
        refine jn e48 ?_
        refine jn e48 ?_
        refine jn e48 ?_
        refine jn e48 ?_
        refine jq (pk2 e48 QU (oi e49)) ?_
        exact Je .k1 (.nil) (J ())
     ·intro x a w ho hR
      subst ho
      exact hq1 a w (hR (oi h))
    ·intro x a w ho hR
     subst ho
     exact hq1 a w (hR (oi h))
   ·intro x a w ho hR
    subst ho
    exact hq1 a w (hR (oi h))
 ·rcases Jl (!r1) with e2 | e2
  ·replace e3 := bt e2 e3
   refine jN e2 ?_
   refine jN e2 ?_
   refine jN e2 ?_
   refine jq (pk1 e2 QU (oi e3)) ?_
   exact Je .k2 (.nil) (J ())
  ·replace e3 := bf e2 e3
   refine jz (pm (ht rfl)) e2 ?_
   refine jz (QX (sz := 1) (ht rfl) (by kernel_rfl)) e2 ?_
   refine jz (Xt (ht rfl) Qe) e2 ?_
   refine jq (pk2 e2 (ht rfl) (oi e3)) ?_
   exact Je .k2 (.nil) (J ())
end Go.Sl.W
