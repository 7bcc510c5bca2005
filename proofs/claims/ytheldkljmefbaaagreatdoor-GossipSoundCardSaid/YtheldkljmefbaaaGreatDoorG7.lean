import Derived.Test.YtheldkljmefbaaaGreatDoorG6
import Derived.Test.YtheldkljmefbaaaGreatDoorG4
import Derived.Test.YtheldkljmefbaaaGreatDoorProg
set_option linter.unusedSimpArgs false
set_option linter.unusedVariables false
set_option linter.unusedSectionVars false
namespace Go.Sl.W
open Go.Proofs Go.Sl Go.Sl.M
set_option maxHeartbeats 4000000
set_option maxRecDepth 100000
theorem VR {G : GP} (hg0 : HG0 G) (hg1 : HG1 G) (hg2 : HG2 G) {p_s : Int × Int × Qa × (Option QF) × (Option QF) × Int} {p_h : Zf} {b_s : Nat} {r : (Int × Int × Qa × (Option QF) × (Option QF) × Int) × QB} (h : Zg p_s p_h = some r) : Ctr Tryz.prog G 22 [val (.pointer (some ⟨b_s, 0, none⟩)), QV.slot p_h] [box b_s 102 (prod i64 (prod i64 (prod Qb (prod (ptr QP) (prod (ptr QP) i64))))) (p_s.1, p_s.2.1, p_s.2.2.1, p_s.2.2.2.1, p_s.2.2.2.2.1, p_s.2.2.2.2.2)] (fun (_ : Unit) => Qh.slot r.2) (fun (_ : Unit) => [box b_s 102 (prod i64 (prod i64 (prod Qb (prod (ptr QP) (prod (ptr QP) i64))))) (r.1.1, r.1.2.1, r.1.2.2.1, r.1.2.2.2.1, r.1.2.2.2.2.1, r.1.2.2.2.2.2)]) := by
 unfold Zg at h
 refine Ql Tryz.func22 rfl 21 rfl rfl fun m0 w0 b0 => ?_
 show Run _ _ _ [(0, val (.pointer (some ⟨b_s, 0, none⟩))), (1, QV.slot p_h)] _
 refine rs <| rt <| jq (QW (ht rfl)) ?_
 refine al (x := ((0, 0, (Vector.replicate 32 (0#8)), (Vector.replicate 32 (0#8))), ([] : List (BitVec 8)))) (R := Qh) (Qn (Qn QG (Qn QG (Qn (QA 32 QK) (QA 32 QK)))) J7) fun b1 => ?_
 refine Qd <| rs <| rt <| jm ?_
 refine jq (pft (ht rfl) .f) ?_
 refine jl ?_
 refine jq (Jp (k := .u64) (b := 64) rfl rfl (by kernel_rfl) (ht rfl) Qg) ?_
 refine jq (Qco (k := .u64) (b := 64) (ht rfl) (Qy (x := 8#64) rfl) (by decide)) ?_
 refine jq (QbX (by kernel_rfl) (ht rfl) JV) ?_
 refine jl ?_
 obtain ⟨r1, e1, h⟩ := bs h
 refine jc tl3 (QfJ hg0 hg1 hg2 e1) (.cons (.next .here) <| .nil) fun _ => ?_
 refine jm ?_
 refine jx ?_
 refine jx ?_
 refine al (x := ((0, 0, (Vector.replicate 32 (0#8)), (Vector.replicate 32 (0#8))), ([] : List (BitVec 8)))) (R := Qh) (Qn (Qn QG (Qn QG (Qn (QA 32 QK) (QA 32 QK)))) J7) fun b2 => ?_
 refine jk (r' := r1.2.1) (ht rfl) (ht rfl) .here .a ?_
 refine ja ?_
 refine Qd <| rs <| rt <| jl ?_
 refine jq (pfp (off := 0) (ht rfl)) ?_
 refine jk (r' := (p_h, r1.2.1.2)) (ht rfl) (ht rfl) .here (.t .a .f) ?_
 refine Qd <| rs <| rt <| jq (plb (ht rfl) .here .a) ?_
 refine jk (r' := (p_h, r1.2.1.2)) (ht rfl) (ht rfl) (.next (.next .here)) .a ?_
 refine Qd ?_
 obtain rfl := oi h
 exact Qj fun a w hst => QE hst rfl (.cell rfl .here (by kernel_rfl)) () (fun _ _ h => h) (.cons (.next (.next .here)) <| .nil)
theorem qQ {G : GP} {p_p : Option ZT} {p_e : Int} : Ctr Tryz.prog G 66 [(ptr Jo).slot p_p, i64.slot p_e] [] (fun (_ : Unit) => fnS 113 [Qo (ptr Jo) p_p, Qo i64 p_e]) (fun (_ : Unit) => []) := by
 refine Ql Tryz.func66 rfl 6 rfl rfl fun m0 w0 b0 => ?_
 show Run _ _ _ [(0, (ptr Jo).slot p_p), (1, i64.slot p_e)] _
 refine rs <| rt <| jq (QW (ht rfl)) ?_
 refine jq (QW (ht rfl)) ?_
 refine jq (pa (s := any) (fun _ _ _ => trivial)) ?_
 refine Qd <| rs <| rt <| jq (WQ tl2) ?_
 refine ja ?_
 exact Qd <| Qj fun a w hst => QE hst rfl (.tmp rfl) () (fun _ _ h => h) .nil
theorem BR {G : GP} {Sy : Type} {yl : Sy → Int → Option Sy} {q_0 : Option ZT} {q_1 : Int} {s0 : Sy} {L : Nat} {rc : Loop} {E : Sy → Ent} {r : Sy} (hY : ∀ s d s', yl s d = some s' → Qah Tryz.prog G L rc (i64.slot d) (E s) (E s')) (h : Xi yl q_0 q_1 s0 = some r) : Qgj Tryz.prog G L rc 113 [val (yv L), Qo (ptr Jo) q_0, Qo i64 q_1] [E s0] (fun (_ : Unit) => tup []) (fun (_ : Unit) => [E r]) := by
 unfold Xi at h
 refine WR Tryz.func113 rfl 27 rfl rfl fun m0 w0 b0 hl hb => ?_
 show Run _ _ _ [(0, val (yv L)), (1, Qo (ptr Jo) q_0), (2, Qo i64 q_1)] _
 refine rs <| rt <| jl ?_
 obtain ⟨x1, e1, h⟩ := bs h
 refine jq (JY (ht rfl) e1) ?_
 refine jq (pft (ht rfl) (.t .s (.t .s .s))) ?_
 refine jl ?_
 refine jq (QR (sz := 2) (ht rfl) (by kernel_rfl)) ?_
 refine jq (pm Qe) ?_
 refine Qd ?_
 obtain ⟨⟨y4, y5⟩, e8, h⟩ := bs h
 refine Q2 (Γi := fun (i : Unit) (s : Int × Sy) => [(0, val (yv L)), (2, Qo i64 q_1), (9, (sl Qs).slot x1.2.2.2), (10, i64.slot (x1.2.2.2.length : Int)), (11, i64.slot s.1)]) (Hi := fun (i : Unit) (s : Int × Sy) => [E s.2]) e8 () (fun a w hst => (hst.sub .k5).keep .h1) ?_ ?_
 ·clear h e8
  rintro _ ⟨y1, y2⟩ lr h
  change YG x1 q_1 yl y1 y2 = some _ at h
  show Run _ _ _ [(0, val (yv L)), (2, Qo i64 q_1), (9, (sl Qs).slot x1.2.2.2), (10, i64.slot (x1.2.2.2.length : Int)), (11, i64.slot y1)] [E y2]
  unfold YG at h
  refine rs <| rt <| jq (Q5 (ht rfl) (ht rfl)) ?_
  refine Qd <| rs <| Qm (ht rfl) (fun e2 => ?_) (fun e2 => ?_)
  ·replace h := bt e2 h
   refine Qk <| rs <| QH <| rs <| rt ?_
   obtain ⟨x2, e3, h⟩ := bs h
   refine jq (pix (ht rfl) (ht rfl) Qg e3) ?_
   refine jl ?_
   refine al (x := (0, 0)) (R := Qs) (Qn QG QG) fun b1 => ?_
   refine jk (r' := x2) (ht rfl) (ht rfl) .here .a ?_
   refine Jn (t := 5) .here (.of_lk rfl) ?_
   refine Qd <| rs <| rt <| jq (pft (ht rfl) .f) ?_
   refine jl ?_
   refine jl ?_
   refine jq (ZL (ht rfl) (ht rfl)) ?_
   refine jm ?_
   rcases Jj (decide (x2.1 = q_1)) with e4 | e4
   ·replace h := bt e4 h
    refine jz (pm (ht rfl)) e4 ?_
    refine jz (pft (ht rfl) .s) e4 ?_
    refine jz (plt (ht rfl)) e4 ?_
    obtain ⟨y3, e5, h⟩ := bs h
    refine WM rfl rfl rfl rfl (Qbt e4) (QhC (ht rfl) (ht rfl) hl hb (hY _ _ _ e5) rfl ?_)
    refine jz (ZG (ht rfl)) e4 ?_
    refine jq (qI (t := any) (ht rfl) (fun _ => (ht rfl)) (fun he => absurd (e4.symm.trans he) (by decide))) ?_
    refine Qd <| YB (ht rfl) rfl ?_
    refine Qk <| Qp <| rt <| jq (QS (ht rfl) Qe) ?_
    refine jm ?_
    refine Qd ?_
    obtain rfl := oi h
    exact Q0 () .k5 .h1
   ·replace h := bf e4 h
    refine jn e4 ?_
    refine jn e4 ?_
    refine jn e4 ?_
    refine jn e4 ?_
    refine jn e4 ?_
    refine jq (qI (t := any) (ht rfl) (fun he => absurd (e4.symm.trans he) (by decide)) (fun _ => QQ)) ?_
    refine Qd <| YB (ht rfl) rfl ?_
    refine Qk <| Qp <| rt <| jq (QS (ht rfl) Qe) ?_
    refine jm ?_
    refine Qd ?_
    obtain rfl := oi h
    exact Q0 () .k5 .h1
  ·replace h := bf e2 h
   obtain rfl := oi h
   exact Je () .k5 .h1
 ·rintro _
  show Run _ _ _ [(0, val (yv L)), (2, Qo i64 q_1), (9, (sl Qs).slot x1.2.2.2), (10, i64.slot (x1.2.2.2.length : Int)), (11, i64.slot y4)] [E y5]
  refine Q7 (Γ' := []) (H' := [E y5]) (.nil) .h1 ?_
  obtain rfl := oi h
  exact YZ fun a w hst => Kt hst rfl (.nil) rfl () (fun _ _ h => h) .h1
theorem Y6 {G : GP} {p_p : Option ZT} {p_m : Int} {p_n : Int} {r : Bool} (h : J6 p_p p_m p_n = some r) : Ctr Tryz.prog G 25 [(ptr Jo).slot p_p, i64.slot p_m, i64.slot p_n] [] (fun (_ : Unit) => bl.slot r) (fun (_ : Unit) => []) := by
 unfold J6 at h
 refine B7 Tryz.func25 rfl 71 rfl rfl fun m0 w0 b0 => ?_
 refine K3 fun Qf hq1 hq2 => ?_
 show Run _ _ _ [(0, (ptr Jo).slot p_p), (1, i64.slot p_m), (2, i64.slot p_n)] _
 refine rs <| rt <| jq (pa QQ) ?_
 refine Qd <| rs <| rs <| rt <| jm ?_
 refine jq (qy (E := 116) (by kernel_rfl) (ht rfl)) ?_
 refine Qd <| Qm (ht rfl) (fun e1 => ?_) (fun e1 => ?_)
 ·replace h := bt e1 h
  refine rs <| rt <| jq (pa QQ) ?_
  refine Qd ?_
  obtain rfl := oi h
  exact Qj fun a w hst => qK hst rfl (.tmp rfl) () (fun _ _ h => h) (.nil)
 ·replace h := bf e1 h
  refine Qk <| rs <| rt <| jm ?_
  refine jm ?_
  obtain ⟨r1, e2, h⟩ := bs h
  refine jq (pc tl2 (Xm e2)) ?_
  refine jm ?_
  refine jx ?_
  refine jx ?_
  refine ja ?_
  refine ja ?_
  refine Qd <| rs <| rt <| jm ?_
  refine jm ?_
  obtain ⟨r2, e3, h⟩ := bs h
  refine jq (pc tl2 (Xm e3)) ?_
  refine jm ?_
  refine jx ?_
  refine jx ?_
  refine ja ?_
  refine ja ?_
  refine Qd <| rs <| rs <| rt <| jm ?_
  refine jq (ZG (ht rfl)) ?_
  refine jm ?_
  obtain ⟨y1, e5, h⟩ := bs h
  refine Ju (ι := Unit) (Γ' := fun _ => [(0, (ptr Jo).slot p_p), (1, i64.slot p_m), (2, i64.slot p_n), (35, bl.slot y1)]) (H' := fun _ => []) 3 ?_ fun J => ?_
  ·intro _
   clear e5
   show Jc _ _ _ [(0, (ptr Jo).slot p_p), (1, i64.slot p_m), (2, i64.slot p_n), (35, bl.slot y1)] [] _
   refine Qd <| Qm (ht rfl) (fun e6 => ?_) (fun e6 => ?_)
   ·replace h := bt e6 h
    refine rs <| rt <| jq (pa QQ) ?_
    refine Qd ?_
    obtain rfl := oi h
    exact Qj fun a w hst => qK hst rfl (.tmp rfl) () (fun _ _ h => h) (.nil)
   ·replace h := bf e6 h
    refine Qk <| rs <| rt <| jm ?_
    refine Kg (T := 3) (R := i64) (.cons (ht rfl) .nil) rfl (by kernel_rfl) (by kernel_rfl) rfl fun v1 => ?_
    refine al (x := ([] : List Int)) (R := (sl i64)) J7 fun b1 => ?_
    refine BB (ht rfl) (ht rfl) .here (by kernel_rfl) (by kernel_rfl) ?_
    refine Qd <| rs <| rs <| rt <| jq (pa Qe) ?_
    refine Qd ?_
    obtain ⟨o, e17, h⟩ := bs h
    refine V5 (Γi := fun (i : Value) (s : Int × (List Int)) => [(0, (ptr Jo).slot p_p), (2, i64.slot p_n), (11, val (.pointer (some ⟨b1, 0, none⟩))), (12, i64.slot s.1)]) (Hi := fun (i : Value) (s : Int × (List Int)) => [box b1 132 (exv i) (), own 3 i64 i s.2]) (R := fun x a w => x = r → Qf a w) e17 v1 (fun a w hst => (hst.sub .k4).keep .h2) ?_ ?_ ?_
    ·clear h e17
     rintro v2 ⟨y2, y3⟩ lr h
     change JZ p_n p_p y2 y3 = some _ at h
     show Run _ _ _ [(0, (ptr Jo).slot p_p), (2, i64.slot p_n), (11, val (.pointer (some ⟨b1, 0, none⟩))), (12, i64.slot y2)] [box b1 132 (exv v2) (), own 3 i64 v2 y3]
     unfold JZ at h
     refine rs <| rs <| rt <| jm ?_
     refine jq (plb (ht rfl) .here .a) ?_
     refine jq (Xc (sz := 1) (ht rfl) (.next .here) (by kernel_rfl)) ?_
     refine jq (Q5 (ht rfl) (ht rfl)) ?_
     refine Qd <| Qm (ht rfl) (fun e7 => ?_) (fun e7 => ?_)
     ·replace h := bt e7 h
      refine Qk <| rs <| QH <| QhZ (QlX QlV) ?_
      refine rs <| rs <| rt <| jq (plb (ht rfl) .here .a) ?_
      refine jm ?_
      obtain ⟨x1, e8, h⟩ := bs h
      refine jq (Zh (ht rfl) (.next .here) (ht rfl) Qg (Jb e8).1 (Jb e8).2.1 (by kernel_rfl)) ?_
      refine jq (PJ.eqv (Xr i64 (y2.toNat) (ht rfl) (.next .here) (Jb e8).2.1 (by kernel_rfl)) (U0 e8 (Jb e8).2.1)) ?_
      refine jm ?_
      refine jq (ZL (ht rfl) (ht rfl)) ?_
      refine Qd <| Qm (ht rfl) (fun e9 => ?_) (fun e9 => ?_)
      ·replace h := bt e9 h
       refine rs <| rt <| jq (pa QQ) ?_
       refine Qd ?_
       obtain rfl := oi h
       refine Qj fun a w hst => ⟨rfl, fun hr => ?_⟩
       subst hr
       exact hq2 a w (qK hst rfl (.tmp rfl) () (fun _ _ h => h) (.nil))
      ·replace h := bf e9 h
       refine Qk <| rs <| Qh0 ?_
       refine rs <| rt <| jm ?_
       refine jq (plb (ht rfl) .here .a) ?_
       refine jm ?_
       obtain ⟨x2, e10, h⟩ := bs h
       refine jq (Zh (ht rfl) (.next .here) (ht rfl) Qg (Jb e10).1 (Jb e10).2.1 (by kernel_rfl)) ?_
       refine jq (PJ.eqv (Xr i64 (y2.toNat) (ht rfl) (.next .here) (Jb e10).2.1 (by kernel_rfl)) (U0 e10 (Jb e10).2.1)) ?_
       refine jq (pc tl2 qQ) ?_
       refine Qd <| QH <| Q7 (Γ' := [(0, (ptr Jo).slot p_p), (2, i64.slot p_n), (11, val (.pointer (some ⟨b1, 0, none⟩))), (12, i64.slot y2), (55, fnS 113 [Qo (ptr Jo) p_p, Qo i64 x2])]) (H' := [box b1 132 (exv v2) (), own 3 i64 v2 y3]) .k5 .h2 ?_
       obtain ⟨y8, e16, h⟩ := bs h
       refine W3 (σ := (List Int)) (α := Int) (κ := Value) (Es := fun (i : Value) (s : (List Int)) => [box b1 132 (exv i) (), own 3 i64 i s]) (y := (fun (s : (List Int)) (d : Int) => Zb s d)) (sd := fun d => i64.slot d) (Γ1 := fun d => [(11, val (.pointer (some ⟨b1, 0, none⟩))), (13, i64.slot d)]) v2 (ht rfl) (by kernel_rfl) rfl .h2 (fun l rc G' hG hY => (BR (E := fun (s : (List Int)) => QaU fun (i : Value) => [box b1 132 (exv i) (), own 3 i64 i s]) hY e16)) ?_ ?_ ?_
       ·clear h e16
        rintro lz mz wz bz v3 y4 d s2 h
        show Run _ _ _ ((56, i64.slot d) :: [(0, (ptr Jo).slot p_p), (2, i64.slot p_n), (11, val (.pointer (some ⟨b1, 0, none⟩))), (12, i64.slot y2), (55, fnS 113 [Qo (ptr Jo) p_p, Qo i64 x2])]) [box b1 132 (exv v3) (), own 3 i64 v3 y4]
        refine rt <| ja ?_
        exact Qd <| YZ fun a w hst => ⟨rfl, (hst.sub .k2).keep .h2⟩
       ·clear h e16
        rintro lz mz wz bz v3 y4 d s2 h
        change Zb y4 d = some _ at h
        show Run _ _ _ [(11, val (.pointer (some ⟨b1, 0, none⟩))), (13, i64.slot d)] [box b1 132 (exv v3) (), own 3 i64 v3 y4]
        unfold Zb at h
        refine QH <| rs <| rs <| rt <| jq (plb (ht rfl) .here .a) ?_
        refine jq (Xc (sz := 1) (ht rfl) (.next .here) (by kernel_rfl)) ?_
        refine jq (pm Qe) ?_
        refine Qd ?_
        obtain ⟨o, e14, h⟩ := bs h
        refine Qip (id2 := 3) (Γi := fun (i : Unit) (s : Int) => [(11, val (.pointer (some ⟨b1, 0, none⟩))), (13, i64.slot d), (57, ov v3), (58, i64.slot (y4.length : Int)), (59, i64.slot s)]) (Hi := fun (i : Unit) (s : Int) => [box b1 132 (exv v3) (), own 3 i64 v3 y4]) e14 rfl () (fun a w hst => (hst.sub .k5).keep .h2) ?_ ?_ ?_
        ·clear h e14
         rintro _ y5 lr h
         change YQ y4 d y5 = some _ at h
         show Run _ _ _ [(11, val (.pointer (some ⟨b1, 0, none⟩))), (13, i64.slot d), (57, ov v3), (58, i64.slot (y4.length : Int)), (59, i64.slot y5)] [box b1 132 (exv v3) (), own 3 i64 v3 y4]
         unfold YQ at h
         refine rs <| rt <| jq (Q5 (ht rfl) (ht rfl)) ?_
         refine Qd <| rs <| Qm (ht rfl) (fun e11 => ?_) (fun e11 => ?_)
         ·replace h := bt e11 h
          refine Qk <| rs <| QH <| rs <| rt ?_
          obtain ⟨x3, e12, h⟩ := bs h
          refine jq (Zh (ht rfl) (.next .here) (ht rfl) Qg (Jb e12).1 (Jb e12).2.1 (by kernel_rfl)) ?_
          refine jq (PJ.eqv (Xr i64 (y5.toNat) (ht rfl) (.next .here) (Jb e12).2.1 (by kernel_rfl)) (U0 e12 (Jb e12).2.1)) ?_
          refine ja ?_
          refine Qd <| rs <| rt <| jm ?_
          refine jm ?_
          refine jq (ZL (ht rfl) (ht rfl)) ?_
          refine Qd <| Qm (ht rfl) (fun e13 => ?_) (fun e13 => ?_)
          ·replace h := bt e13 h
           refine Qa9 fun a w hst => ?_
           refine Qae rfl ?_
           obtain rfl := oi h
           exact QkW () .k5 .h2 hst
          ·replace h := bf e13 h
           refine Qk <| Qp <| rt <| jq (QS (ht rfl) Qe) ?_
           refine jm ?_
           refine Qd ?_
           obtain rfl := oi h
           exact Qh9 () .k5 .h2
         ·replace h := bf e11 h
          obtain rfl := oi h
          exact Qjf () .k5 .h2
        ·rintro _ y6 ho
         subst ho
         show Run _ _ _ [(11, val (.pointer (some ⟨b1, 0, none⟩))), (13, i64.slot d), (57, ov v3), (58, i64.slot (y4.length : Int)), (59, i64.slot y6)] [box b1 132 (exv v3) (), own 3 i64 v3 y4]
         refine Q7 (Γ' := [(11, val (.pointer (some ⟨b1, 0, none⟩))), (13, i64.slot d)]) (H' := [box b1 132 (exv v3) (), own 3 i64 v3 y4]) .k2 .h2 ?_
         refine rt <| jq (plb (ht rfl) .here .a) ?_
         refine jm ?_
         refine jq (QO (T := 3) (R := i64) (.cons (ht rfl) .nil) rfl (by kernel_rfl) (by kernel_rfl)) ?_
         obtain ⟨e15, h⟩ := QD h
         refine Jg (T := 3) (E := 3) (ht rfl) (.next .here) (Jd (ht rfl)) (by kernel_rfl) (by kernel_rfl) e15 rfl fun v4 => ?_
         refine BB (ht rfl) (ht rfl) (.next .here) (by kernel_rfl) (by kernel_rfl) ?_
         refine Qd <| Qp ?_
         obtain rfl := oi h
         exact YZ fun a w hst => ⟨rfl, v4, (hst.sub .nil).keep .h2⟩
        ·rintro _ y7 a w ho hst
         subst ho
         refine QeZ ((?_ : Run _ _ _ _ _) a w hst)
         clear hst
         show Run _ _ _ [(11, val (.pointer (some ⟨b1, 0, none⟩))), (13, i64.slot d), (57, ov v3), (58, i64.slot (y4.length : Int)), (59, i64.slot y7)] [box b1 132 (exv v3) (), own 3 i64 v3 y4]
         obtain rfl := oi h
         exact YZ fun a w hst => ⟨rfl, v3, (hst.sub .nil).keep .h2⟩
       ·rintro v5
        show Run _ _ _ [(0, (ptr Jo).slot p_p), (2, i64.slot p_n), (11, val (.pointer (some ⟨b1, 0, none⟩))), (12, i64.slot y2), (55, fnS 113 [Qo (ptr Jo) p_p, Qo i64 x2])] [box b1 132 (exv v5) (), own 3 i64 v5 y8]
        refine Q7 (Γ' := [(0, (ptr Jo).slot p_p), (2, i64.slot p_n), (11, val (.pointer (some ⟨b1, 0, none⟩))), (12, i64.slot y2)]) (H' := [box b1 132 (exv v5) (), own 3 i64 v5 y8]) .k4 .h2 ?_
        refine Qp <| Qp <| rt <| jm ?_
        refine jq (QS (ht rfl) Qe) ?_
        refine ja ?_
        refine Qd ?_
        obtain rfl := oi h
        exact Q0 v5 .k4 .h2
     ·replace h := bf e7 h
      obtain rfl := oi h
      exact Je v2 .k4 .h2
    ·rintro v6 ⟨y9, y10⟩ ho
     subst ho
     show Run _ _ _ [(0, (ptr Jo).slot p_p), (2, i64.slot p_n), (11, val (.pointer (some ⟨b1, 0, none⟩))), (12, i64.slot y9)] [box b1 132 (exv v6) (), own 3 i64 v6 y10]
     refine Q7 (Γ' := []) (H' := []) (.nil) (.nil) ?_
     refine rs <| rt <| jq (pa QQ) ?_
     refine Qd ?_
     obtain rfl := oi h
     exact Qj fun a w hst => qK hst rfl (.tmp rfl) () (fun _ _ h => h) (.nil)
    ·intro x a w ho hR
     subst ho
     exact hq1 a w (hR (oi h))
  ·rcases Jj (!r1.2) with e4 | e4
   ·replace e5 := bt e4 e5
    refine jN e4 ?_
    refine jN e4 ?_
    refine jq (pk1 e4 QQ (oi e5)) ?_
    exact Ja .k4 (.nil) (J ())
   ·replace e5 := bf e4 e5
    refine jz (pm (ht rfl)) e4 ?_
    refine jz (ZG (ht rfl)) e4 ?_
    refine jq (pk2 e4 (ht rfl) (oi e5)) ?_
    exact Ja .k4 (.nil) (J ())
theorem qV {G : GP} {p_p : (List (BitVec 8)) × (List QB) × (List Q8) × (List QZ)} {b_p : Nat} {v_p1 : Value} {v_p2 : Value} {v_p3 : Value} {hx0 : Hp} {hx1 : Hp} {hx2 : Hp} {hx3 : Hp} {r : (List QB)} (h : XS p_p = some r) : Ctr Tryz.prog G 41 [val (.pointer (some ⟨b_p, 0, none⟩))] [exE (box b_p 116 (prod (sl u8) (prod (exv v_p1) (prod (exv v_p2) (exv v_p3)))) (p_p.1, (), (), ())) hx0, exE (own 33 Qh v_p1 p_p.2.1) hx1, exE (own 123 Qv v_p2 p_p.2.2.1) hx2, exE (own 130 Qs v_p3 p_p.2.2.2) hx3] (fun (u0 : Value) => ov u0) (fun (u0 : Value) => [exE (box b_p 116 (prod (sl u8) (prod (exv v_p1) (prod (exv v_p2) (exv v_p3)))) (p_p.1, (), (), ())) hx0, exE (own 33 Qh v_p1 p_p.2.1) hx1, exE (own 123 Qv v_p2 p_p.2.2.1) hx2, exE (own 130 Qs v_p3 p_p.2.2.2) hx3, own 33 Qh u0 r]) := by
 unfold XS at h
 refine Ql Tryz.func41 rfl 24 rfl rfl fun m0 w0 b0 => ?_
 show Run _ _ _ [(0, val (.pointer (some ⟨b_p, 0, none⟩)))] _
 refine rs <| rt <| QC (T := 33) Qh rfl fun v1 => ?_
 refine Qd <| rs <| rs <| rt <| jq (PJ.xe (Yb (Jy (Jy (Jy (Jy Y9))))) (pm (ht rfl))) ?_
 refine jq (PJ.xe (Yb (Jy (Jy (Jy (Jy Y9))))) (Zz (E := 116) (by kernel_rfl) (ht rfl))) ?_
 refine Qd <| YB (ht rfl) rfl ?_
 refine Qk <| rs <| rt <| QC (T := 33) Qh rfl fun v2 => ?_
 refine Qd <| rs <| rs <| rt <| jq (PJ.xe (Yb (Yb (Jy (Jy (Jy (Jy Y9)))))) (pm (ht rfl))) ?_
 refine jq (PJ.xe (Yb (Yb (Jy (Jy (Jy (Jy Y9)))))) (Qt (ht rfl))) ?_
 refine jq (PJ.xe (Yb (Yb (Jy (Jy (Jy (Jy Y9)))))) (pfp (off := 1) (ht rfl))) ?_
 refine jq (PJ.xe (Yb (Yb (Jy (Jy (Jy (Jy Y9)))))) (plb (ht rfl) (.next (.next .here)) (.t .a (.t .s .f)))) ?_
 refine jq (PJ.xe (Yb (Yb (Jy (Jy (Jy (Jy Y9)))))) (Xc (sz := 67) (ht rfl) (.next (.next (.next .here))) (by kernel_rfl))) ?_
 refine jq (PJ.xe (Yb (Yb (Jy (Jy (Jy (Jy Y9)))))) (pm Qe)) ?_
 refine Qd ?_
 obtain ⟨⟨y3, y4⟩, e6, h⟩ := bs h
 refine Q2 (Γi := fun (i : Value) (s : Int × (List QB)) => [(3, ov i), (11, ov v_p1), (12, i64.slot (p_p.2.1.length : Int)), (13, i64.slot s.1)]) (Hi := fun (i : Value) (s : Int × (List QB)) => [own 33 Qh i s.2, exE (box b_p 116 (prod (sl u8) (prod (exv v_p1) (prod (exv v_p2) (exv v_p3)))) (p_p.1, (), (), ())) hx0, exE (own 33 Qh v_p1 p_p.2.1) hx1, exE (own 123 Qv v_p2 p_p.2.2.1) hx2, exE (own 130 Qs v_p3 p_p.2.2.2) hx3]) e6 v2 (fun a w hst => (hst.sub .k4).keep (.cons .here <| .cons (.next .here) <| .cons (.next .here) <| .cons (.next .here) <| .cons (.next .here) <| .nil)) ?_ ?_
 ·clear h e6
  rintro v3 ⟨y1, y2⟩ lr h
  change Yr p_p y1 y2 = some _ at h
  show Run _ _ _ [(3, ov v3), (11, ov v_p1), (12, i64.slot (p_p.2.1.length : Int)), (13, i64.slot y1)] [own 33 Qh v3 y2, exE (box b_p 116 (prod (sl u8) (prod (exv v_p1) (prod (exv v_p2) (exv v_p3)))) (p_p.1, (), (), ())) hx0, exE (own 33 Qh v_p1 p_p.2.1) hx1, exE (own 123 Qv v_p2 p_p.2.2.1) hx2, exE (own 130 Qs v_p3 p_p.2.2.2) hx3]
  unfold Yr at h
  refine rs <| rt <| jq (PJ.xe (Yb (Jy (Jy (Jy (Jy Y9))))) (Q5 (ht rfl) (ht rfl))) ?_
  refine Qd <| rs <| Qm (ht rfl) (fun e2 => ?_) (fun e2 => ?_)
  ·replace h := bt e2 h
   refine Qk <| rs <| QH <| rs <| rt ?_
   obtain ⟨x1, e3, h⟩ := bs h
   refine jq (PJ.xe (Yb (Jy (Jy (Jy (Jy Y9))))) (Zh (ht rfl) (.next (.next .here)) (ht rfl) Qg (Jb e3).1 (Jb e3).2.1 (by kernel_rfl))) ?_
   refine jq (PJ.xe (Yb (Jy (Jy (Jy (Jy Y9))))) (PJ.eqv (Xr Qh (y1.toNat) (ht rfl) (.next (.next .here)) (Jb e3).2.1 (by kernel_rfl)) (U0 e3 (Jb e3).2.1))) ?_
   refine al (x := ((0, 0, (Vector.replicate 32 (0#8)), (Vector.replicate 32 (0#8))), ([] : List (BitVec 8)))) (R := Qh) (Qn (Qn QG (Qn QG (Qn (QA 32 QK) (QA 32 QK)))) J7) fun b1 => ?_
   refine jk (r' := x1) (ht rfl) (ht rfl) .here .a ?_
   refine Jn (t := 5) .here (.of_lk rfl) ?_
   refine Qd <| rt <| jq (PJ.xe (Yb (Jy (Jy (Jy (Jy Y9))))) (pm (ht rfl))) ?_
   refine jq (PJ.xe (Yb (Jy (Jy (Jy (Jy Y9))))) (plt (ht rfl))) ?_
   obtain ⟨r1, e4, h⟩ := bs h
   refine jq (PJ.xe (Yb (Jy (Jy (Jy (Jy Y9))))) (pc tl1 (KB e4))) ?_
   refine jq (PJ.xe (Yb (Jy (Jy (Jy (Jy Y9))))) (QO (T := 33) (R := Qh) (.cons (ht rfl) .nil) rfl (by kernel_rfl) (by kernel_rfl))) ?_
   obtain ⟨e5, h⟩ := QD h
   refine Jg (T := 33) (E := 33) (ht rfl) .here (Jd (ht rfl)) (by kernel_rfl) (by kernel_rfl) e5 rfl fun v4 => ?_
   refine jq (PJ.xe (Yb (Jy (Jy (Jy (Jy Y9))))) (pa (ht rfl))) ?_
   refine Qd <| Qp <| rt <| jq (PJ.xe (Yb (Jy (Jy (Jy (Jy Y9))))) (QS (ht rfl) Qe)) ?_
   refine jq (PJ.xe (Yb (Jy (Jy (Jy (Jy Y9))))) (pm (ht rfl))) ?_
   refine Qd ?_
   obtain rfl := oi h
   exact Q0 v4 .k4 .h5
  ·replace h := bf e2 h
   obtain rfl := oi h
   exact Je v3 .k4 .h5
 ·rintro v5
  show Run _ _ _ [(3, ov v5), (11, ov v_p1), (12, i64.slot (p_p.2.1.length : Int)), (13, i64.slot y3)] [own 33 Qh v5 y4, exE (box b_p 116 (prod (sl u8) (prod (exv v_p1) (prod (exv v_p2) (exv v_p3)))) (p_p.1, (), (), ())) hx0, exE (own 33 Qh v_p1 p_p.2.1) hx1, exE (own 123 Qv v_p2 p_p.2.2.1) hx2, exE (own 130 Qs v_p3 p_p.2.2.2) hx3]
  refine Q7 (Γ' := [(3, ov v5)]) (H' := [own 33 Qh v5 y4, exE (box b_p 116 (prod (sl u8) (prod (exv v_p1) (prod (exv v_p2) (exv v_p3)))) (p_p.1, (), (), ())) hx0, exE (own 33 Qh v_p1 p_p.2.1) hx1, exE (own 123 Qv v_p2 p_p.2.2.1) hx2, exE (own 130 Qs v_p3 p_p.2.2.2) hx3]) .k1 .h5 ?_
  refine rs <| rt <| jq (PJ.xe (Yb (Jy (Jy (Jy (Jy Y9))))) (pm (ht rfl))) ?_
  refine jq (PJ.xe (Yb (Jy (Jy (Jy (Jy Y9))))) (pa (ht rfl))) ?_
  refine Qd ?_
  obtain rfl := oi h
  exact Qj fun a w hst => QE hst rfl (.tmp rfl) v5 (fun _ _ h => h) (.cons (.next .here) <| .cons (.next .here) <| .cons (.next .here) <| .cons (.next .here) <| .cons .here <| .nil)
theorem UI {G : GP} (hg0 : HG0 G) (hg1 : HG1 G) (hg2 : HG2 G) {r : Bool} (h : YR = some r) : Ctr Tryz.prog G 16 [] [] (fun (_ : Unit) => bl.slot r) (fun (_ : Unit) => []) := by
 unfold YR at h
 refine Ql Tryz.func16 rfl 23 rfl rfl fun m0 w0 b0 => ?_
 show Run _ _ _ [] _
 refine rs <| rt <| jq (pa QQ) ?_
 refine Qd <| rs <| rt ?_
 obtain ⟨r1, e1, h⟩ := bs h
 refine jc (Q1) (Uf hg0 hg1 hg2 e1) .nil fun b1 => ?_
 refine ja ?_
 refine Qd <| rs <| rt <| jm ?_
 obtain ⟨r2, e2, h⟩ := bs h
 refine jq (VF tl1 .here (by kernel_rfl) (Ctr.frozeR (fun _ => (UZ e2)))) ?_
 obtain ⟨r3, e3, h⟩ := bs h
 refine jc tl1 (QaJ e3) .nil fun ⟨b2, v1, v2, v3⟩ => ?_
 refine ja ?_
 refine Qd <| rs <| rt <| jm ?_
 refine jm ?_
 obtain ⟨x1, e4, h⟩ := bs h
 refine jq (PJ.eqv (J9 (R := QV) (Qn QG (Qn QG (Qn (QA 32 QK) (QA 32 QK)))) (by kernel_rfl) (by kernel_rfl) rfl (.cons Qe .f (by kernel_rfl) (.cons Qe (.t .s .f) (by kernel_rfl) .nil))) (oi e4)) ?_
 obtain ⟨r4, e5, h⟩ := bs h
 refine jc tl2 (VR hg0 hg1 hg2 e5) (.cons (.next (.next (.next (.next .here)))) <| .nil) fun _ => ?_
 obtain ⟨r5, e6, h⟩ := bs h
 refine jc tl2 (Ub hg0 hg1 hg2 e6) (.cons (.next .here) <| .cons (.next .here) <| .cons (.next .here) <| .cons (.next .here) <| .nil) fun ⟨v4, v5, v6⟩ => ?_
 refine jq (ZL (ht rfl) Qe) ?_
 refine jm ?_
 obtain ⟨y1, e8, h⟩ := bs h
 refine Ju (ι := Unit) (Γ' := fun _ => [(2, val (.pointer (some ⟨b2, 0, none⟩))), (18, bl.slot y1)]) (H' := fun _ => [box b2 116 (prod (sl u8) (prod (exv v4) (prod (exv v5) (exv v6)))) (r5.1.1, (), (), ()), own 33 Qh v4 r5.1.2.1, own 123 Qv v5 r5.1.2.2.1, own 130 Qs v6 r5.1.2.2.2]) 5 ?_ fun J => ?_
 ·intro _
  clear e8
  show Jc _ _ _ [(2, val (.pointer (some ⟨b2, 0, none⟩))), (18, bl.slot y1)] [box b2 116 (prod (sl u8) (prod (exv v4) (prod (exv v5) (exv v6)))) (r5.1.1, (), (), ()), own 33 Qh v4 r5.1.2.1, own 123 Qv v5 r5.1.2.2.1, own 130 Qs v6 r5.1.2.2.2] _
  refine jm ?_
  obtain ⟨y2, e11, h⟩ := bs h
  refine Ju (ι := Unit) (Γ' := fun _ => [(22, bl.slot y2)]) (H' := fun _ => []) 3 ?_ fun J => ?_
  ·intro _
   clear e11
   show Jc _ _ _ [(22, bl.slot y2)] [] _
   refine ja ?_
   refine Qd ?_
   obtain rfl := oi h
   exact Qj fun a w hst => QE hst rfl (.tmp rfl) () (fun _ _ h => h) (.nil)
  ·rcases Jj (y1) with e10 | e10
   ·replace e11 := bt e10 e11
    refine jz (pm (ht rfl)) e10 ?_
    obtain ⟨r7, e12, e11⟩ := bind_some e11
    refine jz (Z4 (QX (K0 (ht rfl) .here (Zl (.next .here) (Jx (sl u8) r5.1.1 (VQ (prod (exv v5) (exv v6)) ((), ()) X1)) <| Zl (.next (.next .here)) (Jx (sl u8) r5.1.1 (Jx (sl Qh) r5.1.2.1 (VQ (exv v6) () X1))) <| Zl (.next (.next (.next .here))) (Jx (sl u8) r5.1.1 (Jx (sl Qh) r5.1.2.1 (Jx (sl Qv) r5.1.2.2.1 X1))) <| KW)) <| QX (ZY Qe) <| QX (ZY Qe) <| J8) (by kernel_rfl) (Y6 e12) (Rep.flat_slot Ux _)) e10 ?_
    refine jq (pk1 e10 (ht rfl) (oi e11)) ?_
    exact Ja .k1 (.nil) (J ())
   ·replace e11 := bf e10 e11
    refine jn e10 ?_
    refine jn e10 ?_
    refine jq (pk2 e10 QQ (oi e11)) ?_
    exact Ja .k1 (.nil) (J ())
 ·rcases Jj (decide (r5.2 = (0 : Int))) with e7 | e7
  ·replace e8 := bt e7 e8
   refine jz (pm (ht rfl)) e7 ?_
   obtain ⟨r6, e9, e8⟩ := bind_some e8
   refine jz (Qh5 (fun i : Hp × Hp × Hp × Hp => [exE (box b2 116 (prod (sl u8) (prod (exv v4) (prod (exv v5) (exv v6)))) (r5.1.1, (), (), ())) i.1, exE (own 33 Qh v4 r5.1.2.1) i.2.1, exE (own 123 Qv v5 r5.1.2.2.1) i.2.2.1, exE (own 130 Qs v6 r5.1.2.2.2) i.2.2.2]) tl1 .h4 QlA QiQ (by kernel_rfl) (fun _ => Ctr.frozeL (qV e9))) e7 ?_
   refine jz (QR (sz := 67) (ht rfl) (by kernel_rfl)) e7 ?_
   refine jz (ZL (ht rfl) Qe) e7 ?_
   refine jq (pk1 e7 (ht rfl) (oi e8)) ?_
   exact Ja .k2 .h4 (J ())
  ·replace e8 := bf e7 e8
   refine jn e7 ?_
   refine jn e7 ?_
   refine jn e7 ?_
   refine jn e7 ?_
   refine jq (pk2 e7 QQ (oi e8)) ?_
   exact Ja .k2 .h4 (J ())
theorem QaX {G : GP} {p_h : Zf} {r : Bool} (h : VB p_h = some r) : Ctr Tryz.prog G 17 [QV.slot p_h] [] (fun (_ : Unit) => bl.slot r) (fun (_ : Unit) => []) := by
 unfold VB at h
 refine Ql Tryz.func17 rfl 21 rfl rfl fun m0 w0 b0 => ?_
 show Run _ _ _ [(0, QV.slot p_h)] _
 refine rs <| rt <| jq (QW (ht rfl)) ?_
 refine jq (pa QQ) ?_
 refine Qd <| rs <| rt <| jq (pft (ht rfl) .f) ?_
 refine jl ?_
 refine jq (Y1 (ht rfl) Qe) ?_
 refine jm ?_
 obtain ⟨y1, e2, h⟩ := bs h
 refine Ju (ι := Unit) (Γ' := fun _ => [(1, Qo QV p_h), (10, bl.slot y1)]) (H' := fun _ => []) 4 ?_ fun J => ?_
 ·intro _
  clear e2
  show Jc _ _ _ [(1, Qo QV p_h), (10, bl.slot y1)] [] _
  refine jm ?_
  obtain ⟨y2, e4, h⟩ := bs h
  refine Ju (ι := Unit) (Γ' := fun _ => [(1, Qo QV p_h), (15, bl.slot y2)]) (H' := fun _ => []) 4 ?_ fun J => ?_
  ·intro _
   clear e4
   show Jc _ _ _ [(1, Qo QV p_h), (15, bl.slot y2)] [] _
   refine jm ?_
   obtain ⟨y3, e6, h⟩ := bs h
   refine Ju (ι := Unit) (Γ' := fun _ => [(20, bl.slot y3)]) (H' := fun _ => []) 4 ?_ fun J => ?_
   ·intro _
    clear e6
    show Jc _ _ _ [(20, bl.slot y3)] [] _
    refine ja ?_
    refine Qd ?_
    obtain rfl := oi h
    exact Qj fun a w hst => QE hst rfl (.tmp rfl) () (fun _ _ h => h) (.nil)
   ·rcases Jj (y2) with e5 | e5
    ·replace e6 := bt e5 e6
     refine jz (pft (ht rfl) (.t .s .f)) e5 ?_
     refine jz (plt (ht rfl)) e5 ?_
     refine jz (U8 (ht rfl) Qe) e5 ?_
     refine jq (pk1 e5 (ht rfl) (oi e6)) ?_
     exact Ja .k1 (.nil) (J ())
    ·replace e6 := bf e5 e6
     refine jn e5 ?_
     refine jn e5 ?_
     refine jn e5 ?_
     refine jq (pk2 e5 QQ (oi e6)) ?_
     exact Ja .k1 (.nil) (J ())
  ·rcases Jj (y1) with e3 | e3
   ·replace e4 := bt e3 e4
    refine jz (pft (ht rfl) (.t .s .f)) e3 ?_
    refine jz (plt (ht rfl)) e3 ?_
    refine jz (Y1 (ht rfl) Qe) e3 ?_
    refine jq (pk1 e3 (ht rfl) (oi e4)) ?_
    exact Ja .k2 (.nil) (J ())
   ·replace e4 := bf e3 e4
    refine jn e3 ?_
    refine jn e3 ?_
    refine jn e3 ?_
    refine jq (pk2 e3 QQ (oi e4)) ?_
    exact Ja .k2 (.nil) (J ())
 ·rcases Jj (decide ((1 : Int) ≤ p_h.1)) with e1 | e1
  ·replace e2 := bt e1 e2
   refine jz (pft (ht rfl) .f) e1 ?_
   refine jz (plt (ht rfl)) e1 ?_
   refine jz (U8 (ht rfl) Qe) e1 ?_
   refine jq (pk1 e1 (ht rfl) (oi e2)) ?_
   exact Ja .k2 (.nil) (J ())
  ·replace e2 := bf e1 e2
   refine jn e1 ?_
   refine jn e1 ?_
   refine jn e1 ?_
   refine jq (pk2 e1 QQ (oi e2)) ?_
   exact Ja .k2 (.nil) (J ())
theorem Ud {G : GP} {p_x : BitVec 64} {p_bytes : Int} {r : (List (BitVec 8))} (h : ZD p_x p_bytes = some r) : Ctr Tryz.prog G 47 [u64.slot p_x, i64.slot p_bytes] [] (fun (u0 : Value) => ov u0) (fun (u0 : Value) => [own 5 u8 u0 r]) := by
 unfold ZD at h
 refine Ql Tryz.func47 rfl 36 rfl rfl fun m0 w0 b0 => ?_
 show Run _ _ _ [(0, u64.slot p_x), (1, i64.slot p_bytes)] _
 refine rs <| rt <| QC (T := 5) u8 rfl fun v1 => ?_
 refine Qd <| rs <| rt <| QC (T := 5) u8 rfl fun v2 => ?_
 refine QC (T := 5) u8 rfl fun v3 => ?_
 refine Qd <| rs <| rs <| rt <| jq (pa Qe) ?_
 refine Qd ?_
 obtain ⟨⟨y4, y5, y6⟩, e3, h⟩ := bs h
 refine Q2 (Γi := fun (i : Value) (s : (BitVec 64) × Int × (List (BitVec 8))) => [(0, u64.slot s.1), (1, i64.slot p_bytes), (5, ov i), (6, ov v3), (7, i64.slot s.2.1)]) (Hi := fun (i : Value) (s : (BitVec 64) × Int × (List (BitVec 8))) => [own 5 u8 v3 ([] : List (BitVec 8)), own 5 u8 i s.2.2]) e3 v2 (fun a w hst => (hst.sub .k5).keep .h2) ?_ ?_
 ·clear h e3
  rintro v4 ⟨y1, y2, y3⟩ lr h
  change Z0 p_bytes y1 y2 y3 = some _ at h
  show Run _ _ _ [(0, u64.slot y1), (1, i64.slot p_bytes), (5, ov v4), (6, ov v3), (7, i64.slot y2)] [own 5 u8 v3 ([] : List (BitVec 8)), own 5 u8 v4 y3]
  unfold Z0 at h
  refine rs <| rs <| rt <| jm ?_
  refine jm ?_
  refine jq (Q5 (ht rfl) (ht rfl)) ?_
  refine Qd <| Qm (ht rfl) (fun e1 => ?_) (fun e1 => ?_)
  ·replace h := bt e1 h
   refine Qk <| rs <| QH <| rs <| rt <| jm ?_
   refine jm ?_
   refine jq (Qco (k := .u64) (b := 64) (ht rfl) (Qy (x := 256#64) rfl) (by decide)) ?_
   refine jq (Zm (k := .u8) (b := 8) rfl rfl (by kernel_rfl) (ht rfl)) ?_
   refine jq (QO (T := 5) (R := u8) (.cons (ht rfl) .nil) rfl (by kernel_rfl) (by kernel_rfl)) ?_
   obtain ⟨e2, h⟩ := QD h
   refine Jg (T := 5) (E := 5) (ht rfl) (.next .here) (Jd (ht rfl)) (by kernel_rfl) (by kernel_rfl) e2 rfl fun v5 => ?_
   refine ja ?_
   refine Qd <| rt <| jm ?_
   refine jq (Qep (k := .u64) (b := 64) rfl rfl (ht rfl) (Qy (x := 256#64) rfl) (by decide)) ?_
   refine ja ?_
   refine Qd <| Qp <| rt <| jm ?_
   refine jq (QS (ht rfl) Qe) ?_
   refine ja ?_
   refine Qd ?_
   obtain rfl := oi h
   exact Q0 v5 .k5 (.cons (.next .here) <| .cons .here <| .nil)
  ·replace h := bf e1 h
   obtain rfl := oi h
   exact Je v4 .k5 .h2
 ·rintro v6
  show Run _ _ _ [(0, u64.slot y4), (1, i64.slot p_bytes), (5, ov v6), (6, ov v3), (7, i64.slot y5)] [own 5 u8 v3 ([] : List (BitVec 8)), own 5 u8 v6 y6]
  refine Q7 (Γ' := [(1, i64.slot p_bytes), (5, ov v6), (6, ov v3)]) (H' := [own 5 u8 v3 ([] : List (BitVec 8)), own 5 u8 v6 y6]) .k3 .h2 ?_
  refine rs <| rs <| rt <| jm ?_
  refine jq (JF (ht rfl) Qe) ?_
  refine ja ?_
  refine Qd ?_
  obtain ⟨⟨y9, y10⟩, e7, h⟩ := bs h
  refine Q2 (Γi := fun (i : Value) (s : Int × (List (BitVec 8))) => [(5, ov v6), (6, ov i), (8, i64.slot s.1)]) (Hi := fun (i : Value) (s : Int × (List (BitVec 8))) => [own 5 u8 i s.2, own 5 u8 v6 y6]) e7 v3 (fun a w hst => (hst.sub .k3).keep .h2) ?_ ?_
  ·clear h e7
   rintro v7 ⟨y7, y8⟩ lr h
   change ZZ y6 y7 y8 = some _ at h
   show Run _ _ _ [(5, ov v6), (6, ov v7), (8, i64.slot y7)] [own 5 u8 v7 y8, own 5 u8 v6 y6]
   unfold ZZ at h
   refine rs <| rs <| rt <| jm ?_
   refine jq (Y1 (ht rfl) Qe) ?_
   refine Qd <| Qm (ht rfl) (fun e4 => ?_) (fun e4 => ?_)
   ·replace h := bt e4 h
    refine Qk <| rs <| QH <| rt <| jm ?_
    refine jm ?_
    refine jm ?_
    obtain ⟨x1, e5, h⟩ := bs h
    refine jq (Zh (ht rfl) (.next .here) (ht rfl) Qg (Jb e5).1 (Jb e5).2.1 (by kernel_rfl)) ?_
    refine jq (PJ.eqv (Xr u8 (y7.toNat) (ht rfl) (.next .here) (Jb e5).2.1 (by kernel_rfl)) (U0 e5 (Jb e5).2.1)) ?_
    refine jq (QO (T := 5) (R := u8) (.cons (ht rfl) .nil) rfl (by kernel_rfl) (by kernel_rfl)) ?_
    obtain ⟨e6, h⟩ := QD h
    refine Jg (T := 5) (E := 5) (ht rfl) .here (Jd (ht rfl)) (by kernel_rfl) (by kernel_rfl) e6 rfl fun v8 => ?_
    refine ja ?_
    refine Qd <| Qp <| rt <| jm ?_
    refine jq (JF (ht rfl) Qe) ?_
    refine ja ?_
    refine Qd ?_
    obtain rfl := oi h
    exact Q0 v8 .k3 .h2
   ·replace h := bf e4 h
    obtain rfl := oi h
    exact Je v7 .k3 .h2
  ·rintro v9
   show Run _ _ _ [(5, ov v6), (6, ov v9), (8, i64.slot y9)] [own 5 u8 v9 y10, own 5 u8 v6 y6]
   refine Q7 (Γ' := [(6, ov v9)]) (H' := [own 5 u8 v9 y10]) .k1 .h1 ?_
   refine rs <| rt <| jm ?_
   refine ja ?_
   refine Qd ?_
   obtain rfl := oi h
   exact Qj fun a w hst => QE hst rfl (.tmp rfl) v9 (fun _ _ h => h) .h1
theorem BV {G : GP} {r : (Vector (BitVec 32) 8)} (h : Vt = some r) : Ctr Tryz.prog G 108 [] [] (fun (_ : Unit) => (vec 8 u32).slot r) (fun (_ : Unit) => []) := by
 unfold Vt at h
 refine Ql Tryz.func108 rfl 2 rfl rfl fun m0 w0 b0 => ?_
 show Run _ _ _ [] _
 refine rs <| rt <| al (x := (Vector.replicate 8 (0#32))) (R := (vec 8 u32)) (QA 8 QK) fun b1 => ?_
 refine Qd <| rs <| rt ?_
 obtain ⟨x1, e1, h⟩ := bs h
 refine jq (PJ.eqv (WF (z0 := 0#32) (QA 8 QK) (by kernel_rfl) (.cons (Qy (x := 1779033703#32) rfl) (.cons (Qy (x := 3144134277#32) rfl) (.cons (Qy (x := 1013904242#32) rfl) (.cons (Qy (x := 2773480762#32) rfl) (.cons (Qy (x := 1359893119#32) rfl) (.cons (Qy (x := 2600822924#32) rfl) (.cons (Qy (x := 528734635#32) rfl) (.cons (Qy (x := 1541459225#32) rfl) .nil)))))))) (by kernel_rfl) rfl) (oi e1)) ?_
 refine jk (r' := x1) (ht rfl) (ht rfl) .here .a ?_
 refine Qd ?_
 obtain rfl := oi h
 exact Qj fun a w hst => QE hst rfl (.cell rfl .here (by kernel_rfl)) () (fun _ _ h => h) (.nil)
theorem BO {G : GP} {p_b : List (BitVec 8)} {r : (List (BitVec 8))} (h : Xk p_b = some r) : Ctr Tryz.prog G 109 [(sl u8).slot p_b] [] (fun (u0 : Value) => ov u0) (fun (u0 : Value) => [own 5 u8 u0 r]) := by
 unfold Xk at h
 refine Ql Tryz.func109 rfl 24 rfl rfl fun m0 w0 b0 => ?_
 show Run _ _ _ [(0, (sl u8).slot p_b)] _
 refine rs <| rt <| QC (T := 5) u8 rfl fun v1 => ?_
 refine Qd <| rs <| rt <| QC (T := 5) u8 rfl fun v2 => ?_
 refine Qd <| rs <| rt <| jm ?_
 refine jm ?_
 obtain ⟨e1, h⟩ := QD h
 refine Jg (T := 5) (E := 5) (ht rfl) .here (Jd (ht rfl)) (by kernel_rfl) (by kernel_rfl) e1 rfl fun v3 => ?_
 refine ja ?_
 refine Qd <| rs <| rt <| jm ?_
 refine jq (QO (T := 5) (R := u8) (.cons (Qy (x := 128#8) rfl) .nil) rfl (by kernel_rfl) (by kernel_rfl)) ?_
 obtain ⟨e2, h⟩ := QD h
 refine Jg (T := 5) (E := 5) (ht rfl) .here (Jd (ht rfl)) (by kernel_rfl) (by kernel_rfl) e2 rfl fun v4 => ?_
 refine ja ?_
 refine Qd <| rs ?_
 obtain ⟨y2, e5, h⟩ := bs h
 refine Q2 (Γi := fun (i : Value) (s : (List (BitVec 8))) => [(0, (sl u8).slot p_b), (3, ov i)]) (Hi := fun (i : Value) (s : (List (BitVec 8))) => [own 5 u8 i s]) e5 v4 (fun a w hst => (hst.sub .k2).keep .h1) ?_ ?_
 ·clear h e5
  rintro v5 y1 lr h
  change Z1 y1 = some _ at h
  show Run _ _ _ [(0, (sl u8).slot p_b), (3, ov v5)] [own 5 u8 v5 y1]
  unfold Z1 at h
  refine rs <| rs <| rt <| jm ?_
  refine jq (Xc (sz := 1) (ht rfl) .here (by kernel_rfl)) ?_
  refine jq (Bm (ht rfl) Qe (by decide)) ?_
  refine jq (Yt (ht rfl) Qe) ?_
  refine Qd <| Qm (ht rfl) (fun e3 => ?_) (fun e3 => ?_)
  ·replace h := bt e3 h
   refine Qk <| QH <| rt <| jm ?_
   refine jq (QO (T := 5) (R := u8) (.cons (Qy (x := 0#8) rfl) .nil) rfl (by kernel_rfl) (by kernel_rfl)) ?_
   obtain ⟨e4, h⟩ := QD h
   refine Jg (T := 5) (E := 5) (ht rfl) .here (Jd (ht rfl)) (by kernel_rfl) (by kernel_rfl) e4 rfl fun v6 => ?_
   refine ja ?_
   refine Qd <| Qp ?_
   obtain rfl := oi h
   exact Q0 v6 .k2 .h1
  ·replace h := bf e3 h
   obtain rfl := oi h
   exact Je v5 .k2 .h1
 ·rintro v7
  show Run _ _ _ [(0, (sl u8).slot p_b), (3, ov v7)] [own 5 u8 v7 y2]
  refine Q7 (Γ' := [(0, (sl u8).slot p_b), (3, ov v7)]) (H' := [own 5 u8 v7 y2]) .k2 .h1 ?_
  refine rs <| rt <| jm ?_
  refine jm ?_
  refine jq (QR (sz := 1) (ht rfl) (by kernel_rfl)) ?_
  refine jq (Jp (k := .u64) (b := 64) rfl rfl (by kernel_rfl) (ht rfl) Qg) ?_
  refine jq (Qcq (k := .u64) (b := 64) rfl rfl (Qy (x := 8#64) rfl) (ht rfl)) ?_
  obtain ⟨r1, e6, h⟩ := bs h
  refine jq (pc (hc (ht rfl) <| hc Qe <| Q1) (Ctr.froze (Ud e6))) ?_
  obtain ⟨e7, h⟩ := QD h
  refine Jg (T := 5) (E := 5) (ht rfl) .here (Jd (ht rfl)) (by kernel_rfl) (by kernel_rfl) e7 rfl fun v8 => ?_
  refine ja ?_
  refine Qd ?_
  obtain rfl := oi h
  exact Qj fun a w hst => QE hst rfl (.tmp rfl) v8 (fun _ _ h => h) .h1
theorem JS {G : GP} {p_x : BitVec 32} {p_n : BitVec 32} {r : (BitVec 32)} (h : Jt p_x p_n = some r) : Ctr Tryz.prog G 151 [u32.slot p_x, u32.slot p_n] [] (fun (_ : Unit) => u32.slot r) (fun (_ : Unit) => []) := by
 unfold Jt at h
 refine Ql Tryz.func151 rfl 13 rfl rfl fun m0 w0 b0 => ?_
 show Run _ _ _ [(0, u32.slot p_x), (1, u32.slot p_n)] _
 refine rs <| rt <| jq (pa (Qy (x := 0#32) rfl)) ?_
 refine Qd <| rs <| rt <| jm ?_
 refine jm ?_
 refine jq (Xo (k := .u32) (b := 32) rfl (ht rfl) (ht rfl) JV (Int.natCast_nonneg _)) ?_
 refine jm ?_
 refine jm ?_
 refine jq (Qcp (k := .u32) (b := 32) rfl rfl (Qy (x := 32#32) rfl) (ht rfl)) ?_
 refine jq (QaC (k := .u32) (b := 32) rfl rfl (ht rfl) (ht rfl) JV (Int.natCast_nonneg _)) ?_
 refine jq (BA (k := .u32) (b := 32) rfl rfl (ht rfl) (ht rfl)) ?_
 obtain ⟨x1, e1, h⟩ := bs h
 refine jq (PJ.eqv (pa (ht rfl)) (oi e1)) ?_
 refine Qd ?_
 obtain rfl := oi h
 exact Qj fun a w hst => QE hst rfl (.tmp rfl) () (fun _ _ h => h) (.nil)
theorem qr {G : GP} {p_b : List (BitVec 8)} {r : (BitVec 64)} (h : XC p_b = some r) : Ctr Tryz.prog G 154 [(sl u8).slot p_b] [] (fun (_ : Unit) => u64.slot r) (fun (_ : Unit) => []) := by
 unfold XC at h
 refine Ql Tryz.func154 rfl 20 rfl rfl fun m0 w0 b0 => ?_
 show Run _ _ _ [(0, (sl u8).slot p_b)] _
 refine rs <| rt <| jq (pa (Qy (x := 0#64) rfl)) ?_
 refine Qd <| rs <| rt <| jq (pa (Qy (x := 0#64) rfl)) ?_
 refine Qd <| rs <| rs <| rt <| jq (pa Qe) ?_
 refine Qd ?_
 obtain ⟨⟨y3, y4⟩, e3, h⟩ := bs h
 refine Q2 (Γi := fun (i : Unit) (s : (BitVec 64) × Int) => [(0, (sl u8).slot p_b), (3, u64.slot s.1), (4, i64.slot s.2)]) (Hi := fun (i : Unit) (s : (BitVec 64) × Int) => []) e3 () (fun a w hst => (hst.sub .k3).keep (.nil)) ?_ ?_
 ·clear h e3
  rintro _ ⟨y1, y2⟩ lr h
  change Yf p_b y1 y2 = some _ at h
  show Run _ _ _ [(0, (sl u8).slot p_b), (3, u64.slot y1), (4, i64.slot y2)] []
  unfold Yf at h
  refine rs <| rs <| rt <| jm ?_
  refine jm ?_
  refine jq (QR (sz := 1) (ht rfl) (by kernel_rfl)) ?_
  refine jq (Q5 (ht rfl) (ht rfl)) ?_
  refine Qd <| Qm (ht rfl) (fun e1 => ?_) (fun e1 => ?_)
  ·replace h := bt e1 h
   refine Qk <| rs <| QH <| rt <| jm ?_
   refine jq (Qcq (k := .u64) (b := 64) rfl rfl (ht rfl) (Qy (x := 256#64) rfl)) ?_
   refine jm ?_
   refine jm ?_
   obtain ⟨x1, e2, h⟩ := bs h
   refine jq (pix (ht rfl) (ht rfl) Qg e2) ?_
   refine jl ?_
   refine jq (Zm (k := .u64) (b := 64) rfl rfl (by kernel_rfl) (ht rfl)) ?_
   refine jq (YH (k := .u64) (b := 64) rfl rfl (ht rfl) (ht rfl)) ?_
   refine ja ?_
   refine Qd <| Qp <| rt <| jm ?_
   refine jq (QS (ht rfl) Qe) ?_
   refine ja ?_
   refine Qd ?_
   obtain rfl := oi h
   exact Q0 () .k3 (.nil)
  ·replace h := bf e1 h
   obtain rfl := oi h
   exact Je () .k3 (.nil)
 ·rintro _
  show Run _ _ _ [(0, (sl u8).slot p_b), (3, u64.slot y3), (4, i64.slot y4)] []
  refine Q7 (Γ' := [(3, u64.slot y3)]) (H' := []) .k1 (.nil) ?_
  refine rs <| rt <| jm ?_
  refine ja ?_
  refine Qd ?_
  obtain rfl := oi h
  exact Qj fun a w hst => QE hst rfl (.tmp rfl) () (fun _ _ h => h) (.nil)
theorem B2 {G : GP} {p_b : List (BitVec 8)} {r : (Vector (BitVec 32) 64)} (h : XD p_b = some r) : Ctr Tryz.prog G 149 [(sl u8).slot p_b] [] (fun (_ : Unit) => (vec 64 u32).slot r) (fun (_ : Unit) => []) := by
 unfold XD at h
 refine Ql Tryz.func149 rfl 65 rfl rfl fun m0 w0 b0 => ?_
 show Run _ _ _ [(0, (sl u8).slot p_b)] _
 refine rs <| rt <| al (x := (Vector.replicate 64 (0#32))) (R := (vec 64 u32)) (QA 64 QK) fun b1 => ?_
 refine Qd <| rs <| rt <| al (x := (Vector.replicate 64 (0#32))) (R := (vec 64 u32)) (QA 64 QK) fun b2 => ?_
 refine Qd <| rs <| rs <| rt <| jq (pa Qe) ?_
 refine Qd ?_
 obtain ⟨⟨y3, y4⟩, e6, h⟩ := bs h
 refine Q2 (Γi := fun (i : Unit) (s : Int × (Vector (BitVec 32) 64)) => [(0, (sl u8).slot p_b), (2, val (.pointer (some ⟨b1, 0, none⟩))), (3, val (.pointer (some ⟨b2, 0, none⟩))), (4, i64.slot s.1)]) (Hi := fun (i : Unit) (s : Int × (Vector (BitVec 32) 64)) => [box b2 217 (vec 64 u32) s.2, box b1 217 (vec 64 u32) (Vector.replicate 64 (0#32))]) e6 () (fun a w hst => (hst.sub .k4).keep .h2) ?_ ?_
 ·clear h e6
  rintro _ ⟨y1, y2⟩ lr h
  change Ye p_b y1 y2 = some _ at h
  show Run _ _ _ [(0, (sl u8).slot p_b), (2, val (.pointer (some ⟨b1, 0, none⟩))), (3, val (.pointer (some ⟨b2, 0, none⟩))), (4, i64.slot y1)] [box b2 217 (vec 64 u32) y2, box b1 217 (vec 64 u32) (Vector.replicate 64 (0#32))]
  unfold Ye at h
  refine rs <| rs <| rt <| jm ?_
  refine jq (Q5 (ht rfl) Qe) ?_
  refine Qd <| Qm (ht rfl) (fun e1 => ?_) (fun e1 => ?_)
  ·replace h := bt e1 h
   refine Qk <| rs <| QH <| rt <| jm ?_
   refine jm ?_
   refine jm ?_
   refine jq (Y7 Qe (ht rfl)) ?_
   refine jm ?_
   refine jq (Y7 Qe (ht rfl)) ?_
   refine jq (QS (ht rfl) Qe) ?_
   obtain ⟨x1, e2, h⟩ := bs h
   refine jq (JN (ht rfl) (.yes (ht rfl) Qg) (.yes (ht rfl) Qg) e2 (by kernel_rfl)) ?_
   obtain ⟨r1, e3, h⟩ := bs h
   refine jq (pc tl1 (qr e3)) ?_
   refine jq (Zm (k := .u32) (b := 32) rfl rfl (by kernel_rfl) (ht rfl)) ?_
   obtain ⟨e4, h⟩ := QD h
   refine jq (Qq (n := 64) (sz := 1) (ht rfl) (ht rfl) Qg e4.1 e4.2 (by kernel_rfl)) ?_
   obtain ⟨x2, e5, h⟩ := bs h
   refine Yl (r' := x2) (ht rfl) (ht rfl) .here (.t .a (Path.atI 64 u32 y1.toNat (VP e4))) (by kernel_rfl) (oi e5) ?_
   refine Qd <| Qp <| rt <| jm ?_
   refine jq (QS (ht rfl) Qe) ?_
   refine ja ?_
   refine Qd ?_
   obtain rfl := oi h
   exact Q0 () .k4 .h2
  ·replace h := bf e1 h
   obtain rfl := oi h
   exact Je () .k4 .h2
 ·rintro _
  show Run _ _ _ [(0, (sl u8).slot p_b), (2, val (.pointer (some ⟨b1, 0, none⟩))), (3, val (.pointer (some ⟨b2, 0, none⟩))), (4, i64.slot y3)] [box b2 217 (vec 64 u32) y4, box b1 217 (vec 64 u32) (Vector.replicate 64 (0#32))]
  refine Q7 (Γ' := [(2, val (.pointer (some ⟨b1, 0, none⟩))), (3, val (.pointer (some ⟨b2, 0, none⟩)))]) (H' := [box b2 217 (vec 64 u32) y4, box b1 217 (vec 64 u32) (Vector.replicate 64 (0#32))]) .k2 .h2 ?_
  refine rs <| rs <| rt <| jq (pa Qe) ?_
  refine Qd ?_
  obtain ⟨⟨y7, y8⟩, e18, h⟩ := bs h
  refine Q2 (Γi := fun (i : Unit) (s : Int × (Vector (BitVec 32) 64)) => [(2, val (.pointer (some ⟨b1, 0, none⟩))), (3, val (.pointer (some ⟨b2, 0, none⟩))), (5, i64.slot s.1)]) (Hi := fun (i : Unit) (s : Int × (Vector (BitVec 32) 64)) => [box b2 217 (vec 64 u32) s.2, box b1 217 (vec 64 u32) (Vector.replicate 64 (0#32))]) e18 () (fun a w hst => (hst.sub .k3).keep .h2) ?_ ?_
  ·clear h e18
   rintro _ ⟨y5, y6⟩ lr h
   change Yg y5 y6 = some _ at h
   show Run _ _ _ [(2, val (.pointer (some ⟨b1, 0, none⟩))), (3, val (.pointer (some ⟨b2, 0, none⟩))), (5, i64.slot y5)] [box b2 217 (vec 64 u32) y6, box b1 217 (vec 64 u32) (Vector.replicate 64 (0#32))]
   unfold Yg at h
   refine rs <| rs <| rt <| jm ?_
   refine jq (Q5 (ht rfl) Qe) ?_
   refine Qd <| Qm (ht rfl) (fun e7 => ?_) (fun e7 => ?_)
   ·replace h := bt e7 h
    refine Qk <| rs <| QH <| rs <| rt <| jm ?_
    refine jq (JF (ht rfl) Qe) ?_
    obtain ⟨x3, e8, h⟩ := bs h
    refine jq (Qq (n := 64) (sz := 1) (ht rfl) (ht rfl) Qg (QT e8).1 (Xq e8) (by kernel_rfl)) ?_
    refine jq (PJ.eqv (plb (ht rfl) .here (.t .a (Path.atI 64 u32 ((w64 (y5 - (15 : Int))).toNat) (QT e8).2.1))) (Xp e8 (QT e8).2.1)) ?_
    refine ja ?_
    refine Qd <| rs <| rt <| jm ?_
    refine jq (JF (ht rfl) Qe) ?_
    obtain ⟨x4, e9, h⟩ := bs h
    refine jq (Qq (n := 64) (sz := 1) (ht rfl) (ht rfl) Qg (QT e9).1 (Xq e9) (by kernel_rfl)) ?_
    refine jq (PJ.eqv (plb (ht rfl) .here (.t .a (Path.atI 64 u32 ((w64 (y5 - (2 : Int))).toNat) (QT e9).2.1))) (Xp e9 (QT e9).2.1)) ?_
    refine ja ?_
    refine Qd ?_
    obtain ⟨x5, e10, h⟩ := bs h
    obtain ⟨r2, e11, h⟩ := bs h
    obtain ⟨r3, e12, h⟩ := bs h
    obtain ⟨x6, e13, h⟩ := bs h
    obtain ⟨r4, e14, h⟩ := bs h
    obtain ⟨r5, e15, h⟩ := bs h
    refine rd (n := 28) (.m rfl <| .m rfl <| .p (JF (ht rfl) Qe) <| .p (Qq (n := 64) (sz := 1) (ht rfl) (ht rfl) Qg (QT e10).1 (Xq e10) (by kernel_rfl)) <| .p (PJ.eqv (plb (ht rfl) .here (.t .a (Path.atI 64 u32 ((w64 (y5 - (16 : Int))).toNat) (QT e10).2.1))) (Xp e10 (QT e10).2.1)) <| .m rfl <| .p (pc (hc (ht rfl) <| hc (Qy (x := 7#32) rfl) <| Q1) (JS e11)) <| .m rfl <| .p (pc (hc (ht rfl) <| hc (Qy (x := 18#32) rfl) <| Q1) (JS e12)) <| .p (XI (k := .u32) (b := 32) rfl rfl (ht rfl) (ht rfl)) <| .m rfl <| .p (Qep (k := .u32) (b := 32) rfl rfl (ht rfl) (Qy (x := 8#32) rfl) (by decide)) <| .p (XI (k := .u32) (b := 32) rfl rfl (ht rfl) (ht rfl)) <| .p (YH (k := .u32) (b := 32) rfl rfl (ht rfl) (ht rfl)) <| .m rfl <| .p (JF (ht rfl) Qe) <| .p (Qq (n := 64) (sz := 1) (ht rfl) (ht rfl) Qg (QT e13).1 (Xq e13) (by kernel_rfl)) <| .p (PJ.eqv (plb (ht rfl) .here (.t .a (Path.atI 64 u32 ((w64 (y5 - (7 : Int))).toNat) (QT e13).2.1))) (Xp e13 (QT e13).2.1)) <| .p (YH (k := .u32) (b := 32) rfl rfl (ht rfl) (ht rfl)) <| .m rfl <| .p (pc (hc (ht rfl) <| hc (Qy (x := 17#32) rfl) <| Q1) (JS e14)) <| .m rfl <| .p (pc (hc (ht rfl) <| hc (Qy (x := 19#32) rfl) <| Q1) (JS e15)) <| .p (XI (k := .u32) (b := 32) rfl rfl (ht rfl) (ht rfl)) <| .m rfl <| .p (Qep (k := .u32) (b := 32) rfl rfl (ht rfl) (Qy (x := 1024#32) rfl) (by decide)) <| .p (XI (k := .u32) (b := 32) rfl rfl (ht rfl) (ht rfl)) <| .p (YH (k := .u32) (b := 32) rfl rfl (ht rfl) (ht rfl)) <| .nil) (Ja (Γ' := [(2, val (.pointer (some ⟨b1, 0, none⟩))), (3, val (.pointer (some ⟨b2, 0, none⟩))), (5, i64.slot y5), (35, i64.slot y5), (62, u32.slot (((x5 + ((r2 ^^^ r3) ^^^ (x3 / (8#32)))) + x6) + ((r4 ^^^ r5) ^^^ (x4 / (1024#32)))))]) (H' := [box b2 217 (vec 64 u32) y6, box b1 217 (vec 64 u32) (Vector.replicate 64 (0#32))]) .k5 .h2 ?_)
    obtain ⟨e16, h⟩ := QD h
    refine jq (Qq (n := 64) (sz := 1) (ht rfl) (ht rfl) Qg e16.1 e16.2 (by kernel_rfl)) ?_
    obtain ⟨x7, e17, h⟩ := bs h
    refine Yl (r' := x7) (ht rfl) (ht rfl) .here (.t .a (Path.atI 64 u32 y5.toNat (VP e16))) (by kernel_rfl) (oi e17) ?_
    refine Qd <| Qp <| rt <| jm ?_
    refine jq (QS (ht rfl) Qe) ?_
    refine ja ?_
    refine Qd ?_
    obtain rfl := oi h
    exact Q0 () .k3 .h2
   ·replace h := bf e7 h
    obtain rfl := oi h
    exact Je () .k3 .h2
  ·rintro _
   show Run _ _ _ [(2, val (.pointer (some ⟨b1, 0, none⟩))), (3, val (.pointer (some ⟨b2, 0, none⟩))), (5, i64.slot y7)] [box b2 217 (vec 64 u32) y8, box b1 217 (vec 64 u32) (Vector.replicate 64 (0#32))]
   refine Q7 (Γ' := [(2, val (.pointer (some ⟨b1, 0, none⟩))), (3, val (.pointer (some ⟨b2, 0, none⟩)))]) (H' := [box b2 217 (vec 64 u32) y8, box b1 217 (vec 64 u32) (Vector.replicate 64 (0#32))]) .k2 .h2 ?_
   refine rs <| rt <| jq (plb (ht rfl) .here .a) ?_
   refine jk (r' := y8) (ht rfl) (ht rfl) (.next .here) .a ?_
   refine Qd ?_
   obtain rfl := oi h
   exact Qj fun a w hst => QE hst rfl (.cell rfl .here (by kernel_rfl)) () (fun _ _ h => h) (.nil)
theorem QbL {G : GP} {r : (Vector (BitVec 32) 64)} (h : K2 = some r) : Ctr Tryz.prog G 150 [] [] (fun (_ : Unit) => (vec 64 u32).slot r) (fun (_ : Unit) => []) := by
 unfold K2 at h
 refine Ql Tryz.func150 rfl 2 rfl rfl fun m0 w0 b0 => ?_
 show Run _ _ _ [] _
 refine rs <| rt <| al (x := (Vector.replicate 64 (0#32))) (R := (vec 64 u32)) (QA 64 QK) fun b1 => ?_
 refine Qd <| rs <| rt ?_
 obtain ⟨x1, e1, h⟩ := bs h
 refine jq (PJ.eqv (WF (z0 := 0#32) (QA 64 QK) (by kernel_rfl) (.cons (Qy (x := 1116352408#32) rfl) (.cons (Qy (x := 1899447441#32) rfl) (.cons (Qy (x := 3049323471#32) rfl) (.cons (Qy (x := 3921009573#32) rfl) (.cons (Qy (x := 961987163#32) rfl) (.cons (Qy (x := 1508970993#32) rfl) (.cons (Qy (x := 2453635748#32) rfl) (.cons (Qy (x := 2870763221#32) rfl) (.cons (Qy (x := 3624381080#32) rfl) (.cons (Qy (x := 310598401#32) rfl) (.cons (Qy (x := 607225278#32) rfl) (.cons (Qy (x := 1426881987#32) rfl) (.cons (Qy (x := 1925078388#32) rfl) (.cons (Qy (x := 2162078206#32) rfl) (.cons (Qy (x := 2614888103#32) rfl) (.cons (Qy (x := 3248222580#32) rfl) (.cons (Qy (x := 3835390401#32) rfl) (.cons (Qy (x := 4022224774#32) rfl) (.cons (Qy (x := 264347078#32) rfl) (.cons (Qy (x := 604807628#32) rfl) (.cons (Qy (x := 770255983#32) rfl) (.cons (Qy (x := 1249150122#32) rfl) (.cons (Qy (x := 1555081692#32) rfl) (.cons (Qy (x := 1996064986#32) rfl) (.cons (Qy (x := 2554220882#32) rfl) (.cons (Qy (x := 2821834349#32) rfl) (.cons (Qy (x := 2952996808#32) rfl) (.cons (Qy (x := 3210313671#32) rfl) (.cons (Qy (x := 3336571891#32) rfl) (.cons (Qy (x := 3584528711#32) rfl) (.cons (Qy (x := 113926993#32) rfl) (.cons (Qy (x := 338241895#32) rfl) (.cons (Qy (x := 666307205#32) rfl) (.cons (Qy (x := 773529912#32) rfl) (.cons (Qy (x := 1294757372#32) rfl) (.cons (Qy (x := 1396182291#32) rfl) (.cons (Qy (x := 1695183700#32) rfl) (.cons (Qy (x := 1986661051#32) rfl) (.cons (Qy (x := 2177026350#32) rfl) (.cons (Qy (x := 2456956037#32) rfl) (.cons (Qy (x := 2730485921#32) rfl) (.cons (Qy (x := 2820302411#32) rfl) (.cons (Qy (x := 3259730800#32) rfl) (.cons (Qy (x := 3345764771#32) rfl) (.cons (Qy (x := 3516065817#32) rfl) (.cons (Qy (x := 3600352804#32) rfl) (.cons (Qy (x := 4094571909#32) rfl) (.cons (Qy (x := 275423344#32) rfl) (.cons (Qy (x := 430227734#32) rfl) (.cons (Qy (x := 506948616#32) rfl) (.cons (Qy (x := 659060556#32) rfl) (.cons (Qy (x := 883997877#32) rfl) (.cons (Qy (x := 958139571#32) rfl) (.cons (Qy (x := 1322822218#32) rfl) (.cons (Qy (x := 1537002063#32) rfl) (.cons (Qy (x := 1747873779#32) rfl) (.cons (Qy (x := 1955562222#32) rfl) (.cons (Qy (x := 2024104815#32) rfl) (.cons (Qy (x := 2227730452#32) rfl) (.cons (Qy (x := 2361852424#32) rfl) (.cons (Qy (x := 2428436474#32) rfl) (.cons (Qy (x := 2756734187#32) rfl) (.cons (Qy (x := 3204031479#32) rfl) (.cons (Qy (x := 3329325298#32) rfl) .nil)))))))))))))))))))))))))))))))))))))))))))))))))))))))))))))))) (by kernel_rfl) rfl) (oi e1)) ?_
 refine jk (r' := x1) (ht rfl) (ht rfl) .here .a ?_
 refine Qd ?_
 obtain rfl := oi h
 exact Qj fun a w hst => QE hst rfl (.cell rfl .here (by kernel_rfl)) () (fun _ _ h => h) (.nil)
theorem qS {G : GP} {p_h : Vector (BitVec 32) 8} {p_block : List (BitVec 8)} {r : (Vector (BitVec 32) 8)} (h : XY p_h p_block = some r) : Ctr Tryz.prog G 110 [(vec 8 u32).slot p_h, (sl u8).slot p_block] [] (fun (_ : Unit) => (vec 8 u32).slot r) (fun (_ : Unit) => []) := by
 unfold XY at h
 refine Ql Tryz.func110 rfl 121 rfl rfl fun m0 w0 b0 => ?_
 show Run _ _ _ [(0, (vec 8 u32).slot p_h), (1, (sl u8).slot p_block)] _
 refine rs <| rt <| BH (ht rfl) rfl fun b1 => ?_
 refine al (x := (Vector.replicate 8 (0#32))) (R := (vec 8 u32)) (QA 8 QK) fun b2 => ?_
 refine Qd <| rs <| rt <| jm ?_
 obtain ⟨r1, e1, h⟩ := bs h
 refine jq (pc tl1 (B2 e1)) ?_
 refine al (x := (Vector.replicate 64 (0#32))) (R := (vec 64 u32)) (QA 64 QK) fun b3 => ?_
 refine jk (r' := r1) (ht rfl) (ht rfl) .here .a ?_
 refine Jn (t := 5) .here (.of_lk rfl) ?_
 refine Qd <| rs <| rt ?_
 obtain ⟨r2, e2, h⟩ := bs h
 refine jq (pc (Q1) (QbL e2)) ?_
 refine al (x := (Vector.replicate 64 (0#32))) (R := (vec 64 u32)) (QA 64 QK) fun b4 => ?_
 refine jk (r' := r2) (ht rfl) (ht rfl) .here .a ?_
 refine Jn (t := 6) .here (.of_lk rfl) ?_
 refine Qd <| rs <| rt <| jq (plb (ht rfl) (.next .here) .a) ?_
 refine al (x := (Vector.replicate 8 (0#32))) (R := (vec 8 u32)) (QA 8 QK) fun b5 => ?_
 refine jk (r' := p_h) (ht rfl) (ht rfl) .here .a ?_
 refine Qd <| rs <| rs <| rt <| jq (pa Qe) ?_
 refine Qd ?_
 obtain ⟨⟨y3, y4⟩, e16, h⟩ := bs h
 refine Q2 (Γi := fun (i : Unit) (s : Int × (Vector (BitVec 32) 8)) => [(2, val (.pointer (some ⟨b1, 0, none⟩))), (4, val (.pointer (some ⟨b2, 0, none⟩))), (5, Qo (vec 64 u32) r1), (6, Qo (vec 64 u32) r2), (7, val (.pointer (some ⟨b5, 0, none⟩))), (8, i64.slot s.1)]) (Hi := fun (i : Unit) (s : Int × (Vector (BitVec 32) 8)) => [box b5 181 (vec 8 u32) s.2, box b2 181 (vec 8 u32) (Vector.replicate 8 (0#32)), box b1 181 (vec 8 u32) p_h]) e16 () (fun a w hst => (hst.sub .k6).keep .h3) ?_ ?_
 ·clear h e16
  rintro _ ⟨y1, y2⟩ lr h
  change Yq r2 r1 y1 y2 = some _ at h
  show Run _ _ _ [(2, val (.pointer (some ⟨b1, 0, none⟩))), (4, val (.pointer (some ⟨b2, 0, none⟩))), (5, Qo (vec 64 u32) r1), (6, Qo (vec 64 u32) r2), (7, val (.pointer (some ⟨b5, 0, none⟩))), (8, i64.slot y1)] [box b5 181 (vec 8 u32) y2, box b2 181 (vec 8 u32) (Vector.replicate 8 (0#32)), box b1 181 (vec 8 u32) p_h]
  unfold Yq at h
  refine rs <| rs <| rt <| jm ?_
  refine jq (Q5 (ht rfl) Qe) ?_
  refine Qd <| Qm (ht rfl) (fun e3 => ?_) (fun e3 => ?_)
  ·replace h := bt e3 h
   refine Qk <| rs <| QH <| rs <| rt <| jq (Qq (n := 8) (sz := 1) (ht rfl) Qe Qg (by decide) (by decide) (by kernel_rfl)) ?_
   refine jq (plb (ht rfl) .here (.t .a (Path.at 8 u32 4 (by decide)))) ?_
   refine jq (Qq (n := 8) (sz := 1) (ht rfl) Qe Qg (by decide) (by decide) (by kernel_rfl)) ?_
   refine jq (plb (ht rfl) .here (.t .a (Path.at 8 u32 5 (by decide)))) ?_
   refine jq (Uu (k := .u32) (b := 32) rfl rfl (ht rfl) (ht rfl)) ?_
   refine jq (Qq (n := 8) (sz := 1) (ht rfl) Qe Qg (by decide) (by decide) (by kernel_rfl)) ?_
   refine jq (plb (ht rfl) .here (.t .a (Path.at 8 u32 4 (by decide)))) ?_
   refine jq (Qcp (k := .u32) (b := 32) rfl rfl (Qy (x := 4294967295#32) rfl) (ht rfl)) ?_
   refine jq (Qq (n := 8) (sz := 1) (ht rfl) Qe Qg (by decide) (by decide) (by kernel_rfl)) ?_
   refine jq (plb (ht rfl) .here (.t .a (Path.at 8 u32 6 (by decide)))) ?_
   refine jq (Uu (k := .u32) (b := 32) rfl rfl (ht rfl) (ht rfl)) ?_
   refine jq (BA (k := .u32) (b := 32) rfl rfl (ht rfl) (ht rfl)) ?_
   obtain ⟨x1, e4, h⟩ := bs h
   refine jq (PJ.eqv (pa (ht rfl)) (oi e4)) ?_
   refine Qd <| rs <| rt <| jq (Qq (n := 8) (sz := 1) (ht rfl) Qe Qg (by decide) (by decide) (by kernel_rfl)) ?_
   refine jq (plb (ht rfl) .here (.t .a (Path.at 8 u32 0 (by decide)))) ?_
   refine jq (Qq (n := 8) (sz := 1) (ht rfl) Qe Qg (by decide) (by decide) (by kernel_rfl)) ?_
   refine jq (plb (ht rfl) .here (.t .a (Path.at 8 u32 1 (by decide)))) ?_
   refine jq (Uu (k := .u32) (b := 32) rfl rfl (ht rfl) (ht rfl)) ?_
   refine jq (Qq (n := 8) (sz := 1) (ht rfl) Qe Qg (by decide) (by decide) (by kernel_rfl)) ?_
   refine jq (plb (ht rfl) .here (.t .a (Path.at 8 u32 0 (by decide)))) ?_
   refine jq (Qq (n := 8) (sz := 1) (ht rfl) Qe Qg (by decide) (by decide) (by kernel_rfl)) ?_
   refine jq (plb (ht rfl) .here (.t .a (Path.at 8 u32 2 (by decide)))) ?_
   refine jq (Uu (k := .u32) (b := 32) rfl rfl (ht rfl) (ht rfl)) ?_
   refine jq (BA (k := .u32) (b := 32) rfl rfl (ht rfl) (ht rfl)) ?_
   refine jq (Qq (n := 8) (sz := 1) (ht rfl) Qe Qg (by decide) (by decide) (by kernel_rfl)) ?_
   refine jq (plb (ht rfl) .here (.t .a (Path.at 8 u32 1 (by decide)))) ?_
   refine jq (Qq (n := 8) (sz := 1) (ht rfl) Qe Qg (by decide) (by decide) (by kernel_rfl)) ?_
   refine jq (plb (ht rfl) .here (.t .a (Path.at 8 u32 2 (by decide)))) ?_
   refine jq (Uu (k := .u32) (b := 32) rfl rfl (ht rfl) (ht rfl)) ?_
   refine jq (BA (k := .u32) (b := 32) rfl rfl (ht rfl) (ht rfl)) ?_
   obtain ⟨x2, e5, h⟩ := bs h
   refine jq (PJ.eqv (pa (ht rfl)) (oi e5)) ?_
   refine Qd <| rs ?_
   obtain ⟨r3, e6, h⟩ := bs h
   obtain ⟨r4, e7, h⟩ := bs h
   obtain ⟨r5, e8, h⟩ := bs h
   obtain ⟨x3, e9, h⟩ := bs h
   obtain ⟨x4, e10, h⟩ := bs h
   refine rd (n := 23) (.p (Qq (n := 8) (sz := 1) (ht rfl) Qe Qg (by decide) (by decide) (by kernel_rfl)) <| .p (plb (ht rfl) .here (.t .a (Path.at 8 u32 7 (by decide)))) <| .p (Qq (n := 8) (sz := 1) (ht rfl) Qe Qg (by decide) (by decide) (by kernel_rfl)) <| .p (plb (ht rfl) .here (.t .a (Path.at 8 u32 4 (by decide)))) <| .p (pc (hc (ht rfl) <| hc (Qy (x := 6#32) rfl) <| Q1) (JS e6)) <| .p (Qq (n := 8) (sz := 1) (ht rfl) Qe Qg (by decide) (by decide) (by kernel_rfl)) <| .p (plb (ht rfl) .here (.t .a (Path.at 8 u32 4 (by decide)))) <| .p (pc (hc (ht rfl) <| hc (Qy (x := 11#32) rfl) <| Q1) (JS e7)) <| .p (XI (k := .u32) (b := 32) rfl rfl (ht rfl) (ht rfl)) <| .p (Qq (n := 8) (sz := 1) (ht rfl) Qe Qg (by decide) (by decide) (by kernel_rfl)) <| .p (plb (ht rfl) .here (.t .a (Path.at 8 u32 4 (by decide)))) <| .p (pc (hc (ht rfl) <| hc (Qy (x := 25#32) rfl) <| Q1) (JS e8)) <| .p (XI (k := .u32) (b := 32) rfl rfl (ht rfl) (ht rfl)) <| .p (YH (k := .u32) (b := 32) rfl rfl (ht rfl) (ht rfl)) <| .m rfl <| .p (YH (k := .u32) (b := 32) rfl rfl (ht rfl) (ht rfl)) <| .m rfl <| .p (Bw (ht rfl) (ht rfl) Qg e9 (by kernel_rfl)) <| .p (plt (ht rfl)) <| .p (YH (k := .u32) (b := 32) rfl rfl (ht rfl) (ht rfl)) <| .m rfl <| .p (Bw (ht rfl) (ht rfl) Qg e10 (by kernel_rfl)) <| .p (plt (ht rfl)) <| .nil) (Ja (Γ' := [(2, val (.pointer (some ⟨b1, 0, none⟩))), (4, val (.pointer (some ⟨b2, 0, none⟩))), (5, Qo (vec 64 u32) r1), (6, Qo (vec 64 u32) r2), (7, val (.pointer (some ⟨b5, 0, none⟩))), (8, i64.slot y1), (10, u32.slot x2), (70, u32.slot ((((y2[7]) + ((r3 ^^^ r4) ^^^ r5)) + x1) + x3)), (73, u32.slot x4)]) (H' := [box b5 181 (vec 8 u32) y2, box b2 181 (vec 8 u32) (Vector.replicate 8 (0#32)), box b1 181 (vec 8 u32) p_h]) .k9 .h3 ?_)
   refine jq (YH (k := .u32) (b := 32) rfl rfl (ht rfl) (ht rfl)) ?_
   obtain ⟨x5, e11, h⟩ := bs h
   refine jq (PJ.eqv (pa (ht rfl)) (oi e11)) ?_
   refine Qd <| rs ?_
   obtain ⟨r6, e12, h⟩ := bs h
   obtain ⟨r7, e13, h⟩ := bs h
   obtain ⟨r8, e14, h⟩ := bs h
   refine rd (n := 12) (.p (Qq (n := 8) (sz := 1) (ht rfl) Qe Qg (by decide) (by decide) (by kernel_rfl)) <| .p (plb (ht rfl) .here (.t .a (Path.at 8 u32 0 (by decide)))) <| .p (pc (hc (ht rfl) <| hc (Qy (x := 2#32) rfl) <| Q1) (JS e12)) <| .p (Qq (n := 8) (sz := 1) (ht rfl) Qe Qg (by decide) (by decide) (by kernel_rfl)) <| .p (plb (ht rfl) .here (.t .a (Path.at 8 u32 0 (by decide)))) <| .p (pc (hc (ht rfl) <| hc (Qy (x := 13#32) rfl) <| Q1) (JS e13)) <| .p (XI (k := .u32) (b := 32) rfl rfl (ht rfl) (ht rfl)) <| .p (Qq (n := 8) (sz := 1) (ht rfl) Qe Qg (by decide) (by decide) (by kernel_rfl)) <| .p (plb (ht rfl) .here (.t .a (Path.at 8 u32 0 (by decide)))) <| .p (pc (hc (ht rfl) <| hc (Qy (x := 22#32) rfl) <| Q1) (JS e14)) <| .p (XI (k := .u32) (b := 32) rfl rfl (ht rfl) (ht rfl)) <| .m rfl <| .nil) (Ja (Γ' := [(2, val (.pointer (some ⟨b1, 0, none⟩))), (4, val (.pointer (some ⟨b2, 0, none⟩))), (5, Qo (vec 64 u32) r1), (6, Qo (vec 64 u32) r2), (7, val (.pointer (some ⟨b5, 0, none⟩))), (8, i64.slot y1), (11, u32.slot x5), (85, u32.slot ((r6 ^^^ r7) ^^^ r8)), (86, u32.slot x2)]) (H' := [box b5 181 (vec 8 u32) y2, box b2 181 (vec 8 u32) (Vector.replicate 8 (0#32)), box b1 181 (vec 8 u32) p_h]) .k9 .h3 ?_)
   refine jq (YH (k := .u32) (b := 32) rfl rfl (ht rfl) (ht rfl)) ?_
   refine ja ?_
   refine Qd <| rt <| jm ?_
   refine jm ?_
   refine jq (YH (k := .u32) (b := 32) rfl rfl (ht rfl) (ht rfl)) ?_
   refine jq (Qq (n := 8) (sz := 1) (ht rfl) Qe Qg (by decide) (by decide) (by kernel_rfl)) ?_
   refine jq (plb (ht rfl) .here (.t .a (Path.at 8 u32 0 (by decide)))) ?_
   refine jq (Qq (n := 8) (sz := 1) (ht rfl) Qe Qg (by decide) (by decide) (by kernel_rfl)) ?_
   refine jq (plb (ht rfl) .here (.t .a (Path.at 8 u32 1 (by decide)))) ?_
   refine jq (Qq (n := 8) (sz := 1) (ht rfl) Qe Qg (by decide) (by decide) (by kernel_rfl)) ?_
   refine jq (plb (ht rfl) .here (.t .a (Path.at 8 u32 2 (by decide)))) ?_
   refine jq (Qq (n := 8) (sz := 1) (ht rfl) Qe Qg (by decide) (by decide) (by kernel_rfl)) ?_
   refine jq (plb (ht rfl) .here (.t .a (Path.at 8 u32 3 (by decide)))) ?_
   refine jm ?_
   refine jq (YH (k := .u32) (b := 32) rfl rfl (ht rfl) (ht rfl)) ?_
   refine jq (Qq (n := 8) (sz := 1) (ht rfl) Qe Qg (by decide) (by decide) (by kernel_rfl)) ?_
   refine jq (plb (ht rfl) .here (.t .a (Path.at 8 u32 4 (by decide)))) ?_
   refine jq (Qq (n := 8) (sz := 1) (ht rfl) Qe Qg (by decide) (by decide) (by kernel_rfl)) ?_
   refine jq (plb (ht rfl) .here (.t .a (Path.at 8 u32 5 (by decide)))) ?_
   refine jq (Qq (n := 8) (sz := 1) (ht rfl) Qe Qg (by decide) (by decide) (by kernel_rfl)) ?_
   refine jq (plb (ht rfl) .here (.t .a (Path.at 8 u32 6 (by decide)))) ?_
   obtain ⟨x6, e15, h⟩ := bs h
   refine jq (PJ.eqv (WF (z0 := 0#32) (QA 8 QK) (by kernel_rfl) (.cons (ht rfl) (.cons (ht rfl) (.cons (ht rfl) (.cons (ht rfl) (.cons (ht rfl) (.cons (ht rfl) (.cons (ht rfl) (.cons (ht rfl) .nil)))))))) (by kernel_rfl) rfl) (oi e15)) ?_
   refine jk (r' := x6) (ht rfl) (ht rfl) .here .a ?_
   refine Qd <| Qp <| rt <| jm ?_
   refine jq (QS (ht rfl) Qe) ?_
   refine ja ?_
   refine Qd ?_
   obtain rfl := oi h
   exact Q0 () .k6 .h3
  ·replace h := bf e3 h
   obtain rfl := oi h
   exact Je () .k6 .h3
 ·rintro _
  show Run _ _ _ [(2, val (.pointer (some ⟨b1, 0, none⟩))), (4, val (.pointer (some ⟨b2, 0, none⟩))), (5, Qo (vec 64 u32) r1), (6, Qo (vec 64 u32) r2), (7, val (.pointer (some ⟨b5, 0, none⟩))), (8, i64.slot y3)] [box b5 181 (vec 8 u32) y4, box b2 181 (vec 8 u32) (Vector.replicate 8 (0#32)), box b1 181 (vec 8 u32) p_h]
  refine Q7 (Γ' := [(2, val (.pointer (some ⟨b1, 0, none⟩))), (4, val (.pointer (some ⟨b2, 0, none⟩))), (7, val (.pointer (some ⟨b5, 0, none⟩)))]) (H' := [box b5 181 (vec 8 u32) y4, box b2 181 (vec 8 u32) (Vector.replicate 8 (0#32)), box b1 181 (vec 8 u32) p_h]) .k3 .h3 ?_
  refine rs <| rs <| rt <| jq (pa Qe) ?_
  refine Qd ?_
  obtain ⟨⟨y7, y8⟩, e21, h⟩ := bs h
  refine Q2 (Γi := fun (i : Unit) (s : Int × (Vector (BitVec 32) 8)) => [(2, val (.pointer (some ⟨b1, 0, none⟩))), (4, val (.pointer (some ⟨b2, 0, none⟩))), (7, val (.pointer (some ⟨b5, 0, none⟩))), (13, i64.slot s.1)]) (Hi := fun (i : Unit) (s : Int × (Vector (BitVec 32) 8)) => [box b5 181 (vec 8 u32) y4, box b2 181 (vec 8 u32) (Vector.replicate 8 (0#32)), box b1 181 (vec 8 u32) s.2]) e21 () (fun a w hst => (hst.sub .k4).keep .h3) ?_ ?_
  ·clear h e21
   rintro _ ⟨y5, y6⟩ lr h
   change Ys y4 y5 y6 = some _ at h
   show Run _ _ _ [(2, val (.pointer (some ⟨b1, 0, none⟩))), (4, val (.pointer (some ⟨b2, 0, none⟩))), (7, val (.pointer (some ⟨b5, 0, none⟩))), (13, i64.slot y5)] [box b5 181 (vec 8 u32) y4, box b2 181 (vec 8 u32) (Vector.replicate 8 (0#32)), box b1 181 (vec 8 u32) y6]
   unfold Ys at h
   refine rs <| rs <| rt <| jm ?_
   refine jq (Q5 (ht rfl) Qe) ?_
   refine Qd <| Qm (ht rfl) (fun e17 => ?_) (fun e17 => ?_)
   ·replace h := bt e17 h
    refine Qk <| rs <| QH ?_
    obtain ⟨x7, e18, h⟩ := bs h
    obtain ⟨x8, e19, h⟩ := bs h
    refine rd (n := 6) (.m rfl <| .p (Qq (n := 8) (sz := 1) (ht rfl) (ht rfl) Qg (QT e18).1 (Xq e18) (by kernel_rfl)) <| .p (PJ.eqv (plb (ht rfl) (.next (.next .here)) (.t .a (Path.atI 8 u32 y5.toNat (QT e18).2.1))) (Xp e18 (QT e18).2.1)) <| .m rfl <| .p (Qq (n := 8) (sz := 1) (ht rfl) (ht rfl) Qg (QT e19).1 (Xq e19) (by kernel_rfl)) <| .p (PJ.eqv (plb (ht rfl) .here (.t .a (Path.atI 8 u32 y5.toNat (QT e19).2.1))) (Xp e19 (QT e19).2.1)) <| .nil) (Ja (Γ' := [(2, val (.pointer (some ⟨b1, 0, none⟩))), (4, val (.pointer (some ⟨b2, 0, none⟩))), (7, val (.pointer (some ⟨b5, 0, none⟩))), (13, i64.slot y5), (112, i64.slot y5), (114, u32.slot x7), (117, u32.slot x8)]) (H' := [box b5 181 (vec 8 u32) y4, box b2 181 (vec 8 u32) (Vector.replicate 8 (0#32)), box b1 181 (vec 8 u32) y6]) .k7 .h3 ?_)
    refine jq (YH (k := .u32) (b := 32) rfl rfl (ht rfl) (ht rfl)) ?_
    obtain ⟨e20, h⟩ := QD h
    refine jq (Qq (n := 8) (sz := 1) (ht rfl) (ht rfl) Qg e20.1 e20.2 (by kernel_rfl)) ?_
    refine jk (r' := (y6.setIfInBounds y5.toNat (x7 + x8))) (ht rfl) (ht rfl) (.next (.next .here)) (.t .a (Path.atI 8 u32 y5.toNat (VP e20))) ?_
    refine Qd <| Qp <| rt <| jm ?_
    refine jq (QS (ht rfl) Qe) ?_
    refine ja ?_
    refine Qd ?_
    obtain rfl := oi h
    exact Q0 () .k4 (.cons (.next .here) <| .cons (.next .here) <| .cons .here <| .nil)
   ·replace h := bf e17 h
    obtain rfl := oi h
    exact Je () .k4 .h3
  ·rintro _
   show Run _ _ _ [(2, val (.pointer (some ⟨b1, 0, none⟩))), (4, val (.pointer (some ⟨b2, 0, none⟩))), (7, val (.pointer (some ⟨b5, 0, none⟩))), (13, i64.slot y7)] [box b5 181 (vec 8 u32) y4, box b2 181 (vec 8 u32) (Vector.replicate 8 (0#32)), box b1 181 (vec 8 u32) y8]
   refine Q7 (Γ' := [(2, val (.pointer (some ⟨b1, 0, none⟩))), (4, val (.pointer (some ⟨b2, 0, none⟩)))]) (H' := [box b2 181 (vec 8 u32) (Vector.replicate 8 (0#32)), box b1 181 (vec 8 u32) y8]) .k2 (.cons (.next .here) <| .cons (.next .here) <| .nil) ?_
   refine rs <| rt <| jq (plb (ht rfl) (.next .here) .a) ?_
   refine jk (r' := y8) (ht rfl) (ht rfl) .here .a ?_
   refine Qd ?_
   obtain rfl := oi h
   exact Qj fun a w hst => QE hst rfl (.cell rfl .here (by kernel_rfl)) () (fun _ _ h => h) (.nil)
theorem Xz {G : GP} {p_b : List (BitVec 8)} {r : Qa} (h : Z2 p_b = some r) : Ctr Tryz.prog G 62 [(sl u8).slot p_b] [] (fun (_ : Unit) => Qb.slot r) (fun (_ : Unit) => []) := by
 unfold Z2 at h
 refine Ql Tryz.func62 rfl 42 rfl rfl fun m0 w0 b0 => ?_
 show Run _ _ _ [(0, (sl u8).slot p_b)] _
 refine rs <| rt <| al (x := (Vector.replicate 32 (0#8))) (R := Qb) (QA 32 QK) fun b1 => ?_
 refine Qd <| rs <| rt ?_
 obtain ⟨r1, e1, h⟩ := bs h
 refine jq (pc (Q1) (BV e1)) ?_
 refine al (x := (Vector.replicate 8 (0#32))) (R := (vec 8 u32)) (QA 8 QK) fun b2 => ?_
 refine jk (r' := r1) (ht rfl) (ht rfl) .here .a ?_
 refine Qd <| rs <| rt <| jm ?_
 obtain ⟨r2, e2, h⟩ := bs h
 refine jq (pc tl1 (Ctr.froze (BO e2))) ?_
 refine ja ?_
 refine Qd <| rs <| rs <| rt <| jq (pa Qe) ?_
 refine Qd ?_
 obtain ⟨⟨y3, y4⟩, e6, h⟩ := bs h
 refine Q2 (Γi := fun (i : Unit) (s : Int × (Vector (BitVec 32) 8)) => [(2, val (.pointer (some ⟨b1, 0, none⟩))), (3, val (.pointer (some ⟨b2, 0, none⟩))), (4, (sl u8).slot r2), (5, i64.slot s.1)]) (Hi := fun (i : Unit) (s : Int × (Vector (BitVec 32) 8)) => [box b2 181 (vec 8 u32) s.2, box b1 23 Qb (Vector.replicate 32 (0#8))]) e6 () (fun a w hst => (hst.sub .k4).keep .h2) ?_ ?_
 ·clear h e6
  rintro _ ⟨y1, y2⟩ lr h
  change YI r2 y1 y2 = some _ at h
  show Run _ _ _ [(2, val (.pointer (some ⟨b1, 0, none⟩))), (3, val (.pointer (some ⟨b2, 0, none⟩))), (4, (sl u8).slot r2), (5, i64.slot y1)] [box b2 181 (vec 8 u32) y2, box b1 23 Qb (Vector.replicate 32 (0#8))]
  unfold YI at h
  refine rs <| rs <| rt <| jm ?_
  refine jm ?_
  refine jq (QR (sz := 1) (ht rfl) (by kernel_rfl)) ?_
  refine jq (Q5 (ht rfl) (ht rfl)) ?_
  refine Qd <| Qm (ht rfl) (fun e3 => ?_) (fun e3 => ?_)
  ·replace h := bt e3 h
   refine Qk <| rs <| QH ?_
   obtain ⟨x1, e4, h⟩ := bs h
   refine rd (n := 6) (.p (plb (ht rfl) .here .a) <| .m rfl <| .m rfl <| .m rfl <| .p (QS (ht rfl) Qe) <| .p (JN (ht rfl) (.yes (ht rfl) Qg) (.yes (ht rfl) Qg) e4 (by kernel_rfl)) <| .nil) (Ja (Γ' := [(2, val (.pointer (some ⟨b1, 0, none⟩))), (3, val (.pointer (some ⟨b2, 0, none⟩))), (4, (sl u8).slot r2), (5, i64.slot y1), (17, (vec 8 u32).slot y2), (22, (sl u8).slot x1)]) (H' := [box b2 181 (vec 8 u32) y2, box b1 23 Qb (Vector.replicate 32 (0#8))]) .k6 .h2 ?_)
   obtain ⟨r3, e5, h⟩ := bs h
   refine jq (pc tl2 (qS e5)) ?_
   refine jk (r' := r3) (ht rfl) (ht rfl) .here .a ?_
   refine Qd <| Qp <| rt <| jm ?_
   refine jq (QS (ht rfl) Qe) ?_
   refine ja ?_
   refine Qd ?_
   obtain rfl := oi h
   exact Q0 () .k4 .h2
  ·replace h := bf e3 h
   obtain rfl := oi h
   exact Je () .k4 .h2
 ·rintro _
  show Run _ _ _ [(2, val (.pointer (some ⟨b1, 0, none⟩))), (3, val (.pointer (some ⟨b2, 0, none⟩))), (4, (sl u8).slot r2), (5, i64.slot y3)] [box b2 181 (vec 8 u32) y4, box b1 23 Qb (Vector.replicate 32 (0#8))]
  refine Q7 (Γ' := [(2, val (.pointer (some ⟨b1, 0, none⟩))), (3, val (.pointer (some ⟨b2, 0, none⟩)))]) (H' := [box b2 181 (vec 8 u32) y4, box b1 23 Qb (Vector.replicate 32 (0#8))]) .k2 .h2 ?_
  refine rs <| rt <| al (x := (Vector.replicate 32 (0#8))) (R := Qb) (QA 32 QK) fun b3 => ?_
  refine Qd <| rs <| rs <| rt <| jq (pa Qe) ?_
  refine Qd ?_
  obtain ⟨⟨y7, y8⟩, e11, h⟩ := bs h
  refine Q2 (Γi := fun (i : Unit) (s : Int × Qa) => [(2, val (.pointer (some ⟨b1, 0, none⟩))), (3, val (.pointer (some ⟨b2, 0, none⟩))), (6, val (.pointer (some ⟨b3, 0, none⟩))), (7, i64.slot s.1)]) (Hi := fun (i : Unit) (s : Int × Qa) => [box b3 23 Qb s.2, box b2 181 (vec 8 u32) y4, box b1 23 Qb (Vector.replicate 32 (0#8))]) e11 () (fun a w hst => (hst.sub .k4).keep .h3) ?_ ?_
  ·clear h e11
   rintro _ ⟨y5, y6⟩ lr h
   change YK y4 y5 y6 = some _ at h
   show Run _ _ _ [(2, val (.pointer (some ⟨b1, 0, none⟩))), (3, val (.pointer (some ⟨b2, 0, none⟩))), (6, val (.pointer (some ⟨b3, 0, none⟩))), (7, i64.slot y5)] [box b3 23 Qb y6, box b2 181 (vec 8 u32) y4, box b1 23 Qb (Vector.replicate 32 (0#8))]
   unfold YK at h
   refine rs <| rs <| rt <| jm ?_
   refine jq (Q5 (ht rfl) Qe) ?_
   refine Qd <| Qm (ht rfl) (fun e7 => ?_) (fun e7 => ?_)
   ·replace h := bt e7 h
    refine Qk <| rs <| QH <| rt <| jm ?_
    refine jm ?_
    refine jq (qt (ht rfl) Qe (by decide)) ?_
    obtain ⟨x2, e8, h⟩ := bs h
    refine jq (Qq (n := 8) (sz := 1) (ht rfl) (ht rfl) Qg (QT e8).1 (Xq e8) (by kernel_rfl)) ?_
    refine jq (PJ.eqv (plb (ht rfl) (.next .here) (.t .a (Path.atI 8 u32 ((w64 (Int.tdiv y5 (4 : Int))).toNat) (QT e8).2.1))) (Xp e8 (QT e8).2.1)) ?_
    refine jm ?_
    refine jq (Bm (ht rfl) Qe (by decide)) ?_
    refine jq (Jp (k := .u32) (b := 32) rfl rfl (by kernel_rfl) (ht rfl) Qg) ?_
    refine jq (Qcq (k := .u32) (b := 32) rfl rfl (Qy (x := 8#32) rfl) (ht rfl)) ?_
    refine jq (Qcp (k := .u32) (b := 32) rfl rfl (Qy (x := 24#32) rfl) (ht rfl)) ?_
    refine jq (Xo (k := .u32) (b := 32) rfl (ht rfl) (ht rfl) JV (Int.natCast_nonneg _)) ?_
    refine jq (Zm (k := .u8) (b := 8) rfl rfl (by kernel_rfl) (ht rfl)) ?_
    obtain ⟨e9, h⟩ := QD h
    refine jq (Qq (n := 32) (sz := 1) (ht rfl) (ht rfl) Qg e9.1 e9.2 (by kernel_rfl)) ?_
    obtain ⟨x3, e10, h⟩ := bs h
    refine Yl (r' := x3) (ht rfl) (ht rfl) .here (.t .a (Path.atI 32 u8 y5.toNat (VP e9))) (by kernel_rfl) (oi e10) ?_
    refine Qd <| Qp <| rt <| jm ?_
    refine jq (QS (ht rfl) Qe) ?_
    refine ja ?_
    refine Qd ?_
    obtain rfl := oi h
    exact Q0 () .k4 .h3
   ·replace h := bf e7 h
    obtain rfl := oi h
    exact Je () .k4 .h3
  ·rintro _
   show Run _ _ _ [(2, val (.pointer (some ⟨b1, 0, none⟩))), (3, val (.pointer (some ⟨b2, 0, none⟩))), (6, val (.pointer (some ⟨b3, 0, none⟩))), (7, i64.slot y7)] [box b3 23 Qb y8, box b2 181 (vec 8 u32) y4, box b1 23 Qb (Vector.replicate 32 (0#8))]
   refine Q7 (Γ' := [(2, val (.pointer (some ⟨b1, 0, none⟩))), (6, val (.pointer (some ⟨b3, 0, none⟩)))]) (H' := [box b3 23 Qb y8, box b1 23 Qb (Vector.replicate 32 (0#8))]) .k2 (.cons .here <| .cons (.next .here) <| .nil) ?_
   refine rs <| rt <| jq (plb (ht rfl) .here .a) ?_
   refine jk (r' := y8) (ht rfl) (ht rfl) (.next .here) .a ?_
   refine Qd ?_
   obtain rfl := oi h
   exact Qj fun a w hst => QE hst rfl (.cell rfl .here (by kernel_rfl)) () (fun _ _ h => h) (.nil)
theorem qU {G : GP} {p_b : List (BitVec 8)} {r : Qa} (h : X3 p_b = some r) : Ctr Tryz.prog G 101 [(sl u8).slot p_b] [] (fun (_ : Unit) => Qb.slot r) (fun (_ : Unit) => []) := by
 unfold X3 at h
 refine Ql Tryz.func101 rfl 10 rfl rfl fun m0 w0 b0 => ?_
 show Run _ _ _ [(0, (sl u8).slot p_b)] _
 refine rs <| rt <| al (x := (Vector.replicate 32 (0#8))) (R := Qb) (QA 32 QK) fun b1 => ?_
 refine Qd <| rs <| rt <| Kg (T := 5) (R := u8) (.cons (Qy (x := 0#8) rfl) .nil) rfl (by kernel_rfl) (by kernel_rfl) rfl fun v1 => ?_
 refine ja ?_
 refine Qd <| rs <| rt <| jm ?_
 refine jm ?_
 obtain ⟨e1, h⟩ := QD h
 refine Jg (T := 5) (E := 5) (ht rfl) .here (Jd (ht rfl)) (by kernel_rfl) (by kernel_rfl) e1 rfl fun v2 => ?_
 refine ja ?_
 refine Qd <| rs <| rt <| jm ?_
 obtain ⟨r1, e2, h⟩ := bs h
 refine jq (Z4 (QX (VD (ht rfl) .here) <| J8) (by kernel_rfl) (Xz e2) (Rep.flat_slot (Vy _ (Kd _ _)) _)) ?_
 refine jk (r' := r1) (ht rfl) (ht rfl) (.next .here) .a ?_
 refine Qd ?_
 obtain rfl := oi h
 exact Qj fun a w hst => QE hst rfl (.cell rfl .here (by kernel_rfl)) () (fun _ _ h => h) (.nil)
theorem BW {G : GP} {p_epoch : Int} {p_tree : Qa} {r : Qa} (h : XH p_epoch p_tree = some r) : Ctr Tryz.prog G 57 [i64.slot p_epoch, Qb.slot p_tree] [] (fun (_ : Unit) => Qb.slot r) (fun (_ : Unit) => []) := by
 unfold XH at h
 refine Ql Tryz.func57 rfl 14 rfl rfl fun m0 w0 b0 => ?_
 show Run _ _ _ [(0, i64.slot p_epoch), (1, Qb.slot p_tree)] _
 refine rs <| rt <| jq (QW (ht rfl)) ?_
 refine al (x := (Vector.replicate 32 (0#8))) (R := Qb) (QA 32 QK) fun b1 => ?_
 refine Qd <| rs <| rt <| jm ?_
 refine jq (Jp (k := .u64) (b := 64) rfl rfl (by kernel_rfl) (ht rfl) Qg) ?_
 refine jq (Qco (k := .u64) (b := 64) (ht rfl) (Qy (x := 4294967296#64) rfl) (by decide)) ?_
 obtain ⟨r1, e1, h⟩ := bs h
 refine jc (hc (ht rfl) <| hc Qe <| Q1) (Ud e1) .nil fun v1 => ?_
 refine ja ?_
 refine Qd <| rs <| rt <| jm ?_
 refine jq (JA (ht rfl) (by decide) (by kernel_rfl)) ?_
 obtain ⟨e2, h⟩ := QD h
 refine Jg (T := 5) (E := 5) (ht rfl) .here (Jd (ht rfl)) (by kernel_rfl) (by kernel_rfl) e2 rfl fun v2 => ?_
 obtain ⟨r2, e3, h⟩ := bs h
 refine jq (Z4 (QX (VD (ht rfl) .here) <| J8) (by kernel_rfl) (qU e3) (Rep.flat_slot (Vy _ (Kd _ _)) _)) ?_
 refine jk (r' := r2) (ht rfl) (ht rfl) (.next .here) .a ?_
 refine Qd ?_
 obtain rfl := oi h
 exact Qj fun a w hst => QE hst rfl (.cell rfl .here (by kernel_rfl)) () (fun _ _ h => h) (.nil)
theorem Bq {G : GP} {p_n : Int} {r : (List Qa)} (h : Y4 p_n = some r) : Ctr Tryz.prog G 20 [i64.slot p_n] [] (fun (u0 : Value) => ov u0) (fun (u0 : Value) => [own 23 Qb u0 r]) := by
 unfold Y4 at h
 refine Ql Tryz.func20 rfl 19 rfl rfl fun m0 w0 b0 => ?_
 show Run _ _ _ [(0, i64.slot p_n)] _
 refine rs <| rt <| QC (T := 23) Qb rfl fun v1 => ?_
 refine Qd <| rs <| rt <| QC (T := 23) Qb rfl fun v2 => ?_
 refine Qd <| rs <| rs <| rt <| jq (pa Qe) ?_
 refine Qd ?_
 obtain ⟨⟨y3, y4⟩, e5, h⟩ := bs h
 refine Q2 (Γi := fun (i : Value) (s : Int × (List Qa)) => [(0, i64.slot p_n), (3, ov i), (4, i64.slot s.1)]) (Hi := fun (i : Value) (s : Int × (List Qa)) => [own 23 Qb i s.2]) e5 v2 (fun a w hst => (hst.sub .k3).keep .h1) ?_ ?_
 ·clear h e5
  rintro v3 ⟨y1, y2⟩ lr h
  change Yo p_n y1 y2 = some _ at h
  show Run _ _ _ [(0, i64.slot p_n), (3, ov v3), (4, i64.slot y1)] [own 23 Qb v3 y2]
  unfold Yo at h
  refine rs <| rs <| rt <| jm ?_
  refine jm ?_
  refine jq (U8 (ht rfl) (ht rfl)) ?_
  refine Qd <| Qm (ht rfl) (fun e1 => ?_) (fun e1 => ?_)
  ·replace h := bt e1 h
   refine Qk <| rs <| QH <| rt <| jm ?_
   refine jm ?_
   refine jm ?_
   refine jq (Jp (k := .u8) (b := 8) rfl rfl (by kernel_rfl) (ht rfl) Qg) ?_
   obtain ⟨x1, e2, h⟩ := bs h
   refine jq (PJ.eqv (J9 (R := Qb) (QA 32 QK) (by kernel_rfl) (by kernel_rfl) rfl (.cons (ht rfl) (Path.at 32 u8 0 (by decide)) (by kernel_rfl) .nil)) (oi e2)) ?_
   obtain ⟨r1, e3, h⟩ := bs h
   refine jq (pc tl2 (BW e3)) ?_
   refine jq (QO (T := 23) (R := Qb) (.cons (ht rfl) .nil) rfl (by kernel_rfl) (by kernel_rfl)) ?_
   obtain ⟨e4, h⟩ := QD h
   refine Jg (T := 23) (E := 23) (ht rfl) .here (Jd (ht rfl)) (by kernel_rfl) (by kernel_rfl) e4 rfl fun v4 => ?_
   refine ja ?_
   refine Qd <| Qp <| rt <| jm ?_
   refine jq (QS (ht rfl) Qe) ?_
   refine ja ?_
   refine Qd ?_
   obtain rfl := oi h
   exact Q0 v4 .k3 .h1
  ·replace h := bf e1 h
   obtain rfl := oi h
   exact Je v3 .k3 .h1
 ·rintro v5
  show Run _ _ _ [(0, i64.slot p_n), (3, ov v5), (4, i64.slot y3)] [own 23 Qb v5 y4]
  refine Q7 (Γ' := [(3, ov v5)]) (H' := [own 23 Qb v5 y4]) .k1 .h1 ?_
  refine rs <| rt <| jm ?_
  refine ja ?_
  refine Qd ?_
  obtain rfl := oi h
  exact Qj fun a w hst => QE hst rfl (.tmp rfl) v5 (fun _ _ h => h) .h1
theorem Vc {G : GP} {p_a : Qa} {p_b : Qa} {r : (List (BitVec 8))} (h : Z9 p_a p_b = some r) : Ctr Tryz.prog G 69 [Qb.slot p_a, Qb.slot p_b] [] (fun (u0 : Value) => ov u0) (fun (u0 : Value) => [own 5 u8 u0 r]) := by
 unfold Z9 at h
 refine Ql Tryz.func69 rfl 13 rfl rfl fun m0 w0 b0 => ?_
 show Run _ _ _ [(0, Qb.slot p_a), (1, Qb.slot p_b)] _
 refine rs <| rt <| jq (QW (ht rfl)) ?_
 refine jq (QW (ht rfl)) ?_
 refine QC (T := 5) u8 rfl fun v1 => ?_
 refine Qd <| rs <| rt <| Kg (T := 5) (R := u8) (.cons (Qy (x := 1#8) rfl) .nil) rfl (by kernel_rfl) (by kernel_rfl) rfl fun v2 => ?_
 refine ja ?_
 refine Qd <| rs <| rt <| jm ?_
 refine jq (JA (ht rfl) (by decide) (by kernel_rfl)) ?_
 obtain ⟨e1, h⟩ := QD h
 refine Jg (T := 5) (E := 5) (ht rfl) .here (Jd (ht rfl)) (by kernel_rfl) (by kernel_rfl) e1 rfl fun v3 => ?_
 refine ja ?_
 refine Qd <| rs <| rt <| jm ?_
 refine jq (JA (ht rfl) (by decide) (by kernel_rfl)) ?_
 obtain ⟨e2, h⟩ := QD h
 refine Jg (T := 5) (E := 5) (ht rfl) .here (Jd (ht rfl)) (by kernel_rfl) (by kernel_rfl) e2 rfl fun v4 => ?_
 refine ja ?_
 refine Qd ?_
 obtain rfl := oi h
 exact Qj fun a w hst => QE hst rfl (.tmp rfl) v4 (fun _ _ h => h) .h1
theorem Kq {G : GP} {p_a : Qa} {p_b : Qa} {r : Qa} (h : YF p_a p_b = some r) : Ctr Tryz.prog G 63 [Qb.slot p_a, Qb.slot p_b] [] (fun (_ : Unit) => Qb.slot r) (fun (_ : Unit) => []) := by
 unfold YF at h
 refine Ql Tryz.func63 rfl 9 rfl rfl fun m0 w0 b0 => ?_
 show Run _ _ _ [(0, Qb.slot p_a), (1, Qb.slot p_b)] _
 refine rs <| rt <| jq (QW (ht rfl)) ?_
 refine jq (QW (ht rfl)) ?_
 refine al (x := (Vector.replicate 32 (0#8))) (R := Qb) (QA 32 QK) fun b1 => ?_
 refine Qd <| rs <| rt <| jl ?_
 refine jl ?_
 obtain ⟨r1, e1, h⟩ := bs h
 refine jq (pc tl2 (Ctr.froze (Vc e1))) ?_
 obtain ⟨r2, e2, h⟩ := bs h
 refine jq (pc tl1 (Xz e2)) ?_
 refine jk (r' := r2) (ht rfl) (ht rfl) .here .a ?_
 refine Qd ?_
 obtain rfl := oi h
 exact Qj fun a w hst => QE hst rfl (.cell rfl .here (by kernel_rfl)) () (fun _ _ h => h) (.nil)
theorem BL {G : GP} {rc : (List Qa) → Option Qa} (hrc : ∀ {p_l : List Qa} {r : Qa}, rc p_l = some r → Ctr Tryz.prog G 23 [(sl Qb).slot p_l] [] (fun (_ : Unit) => Qb.slot r) (fun (_ : Unit) => [])) {p_l : List Qa} {r : Qa} (h : Xn rc p_l = some r) : Ctr Tryz.prog G 23 [(sl Qb).slot p_l] [] (fun (_ : Unit) => Qb.slot r) (fun (_ : Unit) => []) := by
 unfold Xn at h
 refine Ql Tryz.func23 rfl 31 rfl rfl fun m0 w0 b0 => ?_
 show Run _ _ _ [(0, (sl Qb).slot p_l)] _
 refine rs <| rt <| al (x := (Vector.replicate 32 (0#8))) (R := Qb) (QA 32 QK) fun b1 => ?_
 refine Qd <| rs <| rs <| rt <| jm ?_
 refine jq (QR (sz := 32) (ht rfl) (by kernel_rfl)) ?_
 refine jq (ZL (ht rfl) Qe) ?_
 refine Qd <| Qm (ht rfl) (fun e1 => ?_) (fun e1 => ?_)
 ·replace h := bt e1 h
  refine rs <| rt ?_
  obtain ⟨r1, e2, h⟩ := bs h
  refine jq (pc (hc (WG (R := u8)) <| Q1) (Xz e2)) ?_
  refine jk (r' := r1) (ht rfl) (ht rfl) .here .a ?_
  refine Qd ?_
  obtain rfl := oi h
  exact Qj fun a w hst => QE hst rfl (.cell rfl .here (by kernel_rfl)) () (fun _ _ h => h) (.nil)
 ·replace h := bf e1 h
  refine Qk <| rs <| rs <| rt <| jm ?_
  refine jq (QR (sz := 32) (ht rfl) (by kernel_rfl)) ?_
  refine jq (ZL (ht rfl) Qe) ?_
  refine Qd <| Qm (ht rfl) (fun e3 => ?_) (fun e3 => ?_)
  ·replace h := bt e3 h
   refine rs <| rt <| jm ?_
   obtain ⟨x1, e4, h⟩ := bs h
   refine jq (pix (ht rfl) Qe Qg e4) ?_
   refine jl ?_
   refine jk (r' := x1) (ht rfl) (ht rfl) .here .a ?_
   refine Qd ?_
   obtain rfl := oi h
   exact Qj fun a w hst => QE hst rfl (.cell rfl .here (by kernel_rfl)) () (fun _ _ h => h) (.nil)
  ·replace h := bf e3 h
   refine Qk <| rs <| rt <| jq (pa Qe) ?_
   refine Qd <| rs ?_
   obtain ⟨y2, e6, h⟩ := bs h
   refine Q2 (Γi := fun (i : Unit) (s : Int) => [(0, (sl Qb).slot p_l), (2, val (.pointer (some ⟨b1, 0, none⟩))), (3, i64.slot s)]) (Hi := fun (i : Unit) (s : Int) => [box b1 23 Qb (Vector.replicate 32 (0#8))]) e6 () (fun a w hst => (hst.sub .k3).keep .h1) ?_ ?_
   ·clear h e6
    rintro _ y1 lr h
    change XX p_l y1 = some _ at h
    show Run _ _ _ [(0, (sl Qb).slot p_l), (2, val (.pointer (some ⟨b1, 0, none⟩))), (3, i64.slot y1)] [box b1 23 Qb (Vector.replicate 32 (0#8))]
    unfold XX at h
    refine rs <| rs <| rt <| jm ?_
    refine jm ?_
    refine jq (QR (sz := 32) (ht rfl) (by kernel_rfl)) ?_
    refine jm ?_
    refine jq (JF (ht rfl) (ht rfl)) ?_
    refine jq (Q5 (ht rfl) (ht rfl)) ?_
    refine Qd <| Qm (ht rfl) (fun e5 => ?_) (fun e5 => ?_)
    ·replace h := bt e5 h
     refine Qk <| QH <| rt <| jm ?_
     refine jq (Y7 Qe (ht rfl)) ?_
     refine ja ?_
     refine Qd <| Qp ?_
     obtain rfl := oi h
     exact Q0 () .k3 .h1
    ·replace h := bf e5 h
     obtain rfl := oi h
     exact Je () .k3 .h1
   ·rintro _
    show Run _ _ _ [(0, (sl Qb).slot p_l), (2, val (.pointer (some ⟨b1, 0, none⟩))), (3, i64.slot y2)] [box b1 23 Qb (Vector.replicate 32 (0#8))]
    refine Q7 (Γ' := [(0, (sl Qb).slot p_l), (2, val (.pointer (some ⟨b1, 0, none⟩))), (3, i64.slot y2)]) (H' := [box b1 23 Qb (Vector.replicate 32 (0#8))]) .k3 .h1 ?_
    refine rs ?_
    obtain ⟨x2, e7, h⟩ := bs h
    obtain ⟨r2, e8, h⟩ := bs h
    obtain ⟨x3, e9, h⟩ := bs h
    refine rd (n := 7) (.m rfl <| .m rfl <| .p (JN (ht rfl) .no (.yes (ht rfl) Qg) e7 (by kernel_rfl)) <| .p (pc tl1 (hrc e8)) <| .m rfl <| .m rfl <| .p (JN (ht rfl) (.yes (ht rfl) Qg) .no e9 (by kernel_rfl)) <| .nil) (Ja (Γ' := [(2, val (.pointer (some ⟨b1, 0, none⟩))), (25, Qb.slot r2), (28, (sl Qb).slot x3)]) (H' := [box b1 23 Qb (Vector.replicate 32 (0#8))]) .k3 .h1 ?_)
    obtain ⟨r3, e10, h⟩ := bs h
    refine jq (pc tl1 (hrc e10)) ?_
    obtain ⟨r4, e11, h⟩ := bs h
    refine jq (pc tl2 (Kq e11)) ?_
    refine jk (r' := r4) (ht rfl) (ht rfl) .here .a ?_
    refine Qd ?_
    obtain rfl := oi h
    exact Qj fun a w hst => QE hst rfl (.cell rfl .here (by kernel_rfl)) () (fun _ _ h => h) (.nil)
theorem BM {G : GP} : ∀ (n : Nat) {p_l : List Qa} {r : Qa}, Xh n p_l = some r → Ctr Tryz.prog G 23 [(sl Qb).slot p_l] [] (fun (_ : Unit) => Qb.slot r) (fun (_ : Unit) => []) := by
 intro n
 induction n with
 | zero => intro p_l r h; cases h
 | succ n ih => intro p_l r h; exact BL (fun h => ih h) h
theorem Xl {G : GP} {p_l : List Qa} {r : Qa} (h : Yz p_l = some r) : Ctr Tryz.prog G 23 [(sl Qb).slot p_l] [] (fun (_ : Unit) => Qb.slot r) (fun (_ : Unit) => []) := BM FU h
theorem Ws {G : GP} {p_from : Int} {p_to : Int} {r : Bool} (h : Km p_from p_to = some r) : Ctr Tryz.prog G 185 [i64.slot p_from, i64.slot p_to] [] (fun (_ : Unit) => bl.slot r) (fun (_ : Unit) => []) := by
 unfold Km at h
 refine Ql Tryz.func185 rfl 16 rfl rfl fun m0 w0 b0 => ?_
 show Run _ _ _ [(0, i64.slot p_from), (1, i64.slot p_to)] _
 refine rs <| rt <| jq (pa QQ) ?_
 refine Qd <| rs <| rt <| jm ?_
 refine jq (Y1 (ht rfl) Qe) ?_
 refine jm ?_
 obtain ⟨y1, e2, h⟩ := bs h
 refine Ju (ι := Unit) (Γ' := fun _ => [(1, i64.slot p_to), (11, bl.slot y1)]) (H' := fun _ => []) 4 ?_ fun J => ?_
 ·intro _
  clear e2
  show Jc _ _ _ [(1, i64.slot p_to), (11, bl.slot y1)] [] _
  refine jm ?_
  obtain ⟨y2, e4, h⟩ := bs h
  refine Ju (ι := Unit) (Γ' := fun _ => [(15, bl.slot y2)]) (H' := fun _ => []) 3 ?_ fun J => ?_
  ·intro _
   clear e4
   show Jc _ _ _ [(15, bl.slot y2)] [] _
   refine ja ?_
   refine Qd ?_
   obtain rfl := oi h
   exact Qj fun a w hst => QE hst rfl (.tmp rfl) () (fun _ _ h => h) (.nil)
  ·rcases Jj (y1) with e3 | e3
   ·replace e4 := bt e3 e4
    refine jz (pm (ht rfl)) e3 ?_
    refine jz (U8 (ht rfl) Qe) e3 ?_
    refine jq (pk1 e3 (ht rfl) (oi e4)) ?_
    exact Ja .k1 (.nil) (J ())
   ·replace e4 := bf e3 e4
    refine jn e3 ?_
    refine jn e3 ?_
    refine jq (pk2 e3 QQ (oi e4)) ?_
    exact Ja .k1 (.nil) (J ())
 ·rcases Jj (decide ((0 : Int) ≤ p_from)) with e1 | e1
  ·replace e2 := bt e1 e2
   refine jz (pm (ht rfl)) e1 ?_
   refine jz (pm (ht rfl)) e1 ?_
   refine jz (U8 (ht rfl) (ht rfl)) e1 ?_
   refine jq (pk1 e1 (ht rfl) (oi e2)) ?_
   exact Ja .k2 (.nil) (J ())
  ·replace e2 := bf e1 e2
   refine jn e1 ?_
   refine jn e1 ?_
   refine jn e1 ?_
   refine jq (pk2 e1 QQ (oi e2)) ?_
   exact Ja .k2 (.nil) (J ())
theorem Qa7 {G : GP} {p_x : BitVec 64} {r : Int} (h : Vw p_x = some r) : Ctr Tryz.prog G 191 [u64.slot p_x] [] (fun (_ : Unit) => i64.slot r) (fun (_ : Unit) => []) := by
 unfold Vw at h
 refine Ql Tryz.func191 rfl 25 rfl rfl fun m0 w0 b0 => ?_
 show Run _ _ _ [(0, u64.slot p_x)] _
 refine rs <| rt <| jq (pa Qe) ?_
 refine Qd <| rs <| rs <| rt <| jm ?_
 refine jq (QeV (k := .u64) (b := 64) (ht rfl) (Qy (x := 4294967296#64) rfl)) ?_
 refine Qd ?_
 obtain ⟨⟨y1, y2⟩, e2, h⟩ := bs h
 refine KQ (ι := Unit) (Γ' := fun (_ : Unit) => [(0, u64.slot y1), (2, i64.slot y2)]) (H' := fun (_ : Unit) => []) ?_ fun J => ?_
 ·intro _
  clear e2
  show Run _ _ _ [(0, u64.slot y1), (2, i64.slot y2)] []
  refine rs <| rs <| rt <| jm ?_
  refine jq (QeV (k := .u64) (b := 64) (ht rfl) (Qy (x := 65536#64) rfl)) ?_
  refine Qd ?_
  obtain ⟨⟨y3, y4⟩, e4, h⟩ := bs h
  refine KQ (ι := Unit) (Γ' := fun (_ : Unit) => [(0, u64.slot y3), (2, i64.slot y4)]) (H' := fun (_ : Unit) => []) ?_ fun J => ?_
  ·intro _
   clear e4
   show Run _ _ _ [(0, u64.slot y3), (2, i64.slot y4)] []
   refine rs <| rs <| rt <| jm ?_
   refine jq (QeV (k := .u64) (b := 64) (ht rfl) (Qy (x := 256#64) rfl)) ?_
   refine Qd ?_
   obtain ⟨⟨y5, y6⟩, e6, h⟩ := bs h
   refine KQ (ι := Unit) (Γ' := fun (_ : Unit) => [(0, u64.slot y5), (2, i64.slot y6)]) (H' := fun (_ : Unit) => []) ?_ fun J => ?_
   ·intro _
    clear e6
    show Run _ _ _ [(0, u64.slot y5), (2, i64.slot y6)] []
    refine rs <| rt <| jm ?_
    refine jm ?_
    refine jq (Zm (k := .u8) (b := 8) rfl rfl (by kernel_rfl) (ht rfl)) ?_
    obtain ⟨x1, e7, h⟩ := bs h
    refine jq (Qes (QkI (xs := S_0) (by kernel_rfl)) (ht rfl) JV e7 (by kernel_rfl)) ?_
    refine jq (YV (by decide) (by kernel_rfl) (ht rfl)) ?_
    refine jq (QS (ht rfl) (ht rfl)) ?_
    refine ja ?_
    refine Qd ?_
    obtain rfl := oi h
    exact Qj fun a w hst => QE hst rfl (.tmp rfl) () (fun _ _ h => h) (.nil)
   ·refine Qm (ht rfl) (fun e5 => ?_) (fun e5 => ?_)
    ·replace h := bt e5 e6
     refine rs <| rt <| jm ?_
     refine jq (Xo (k := .u64) (b := 64) rfl (ht rfl) (Qy (x := 8#64) rfl) JV (Int.natCast_nonneg _)) ?_
     refine ja ?_
     refine Qd <| rt <| jm ?_
     refine jq (QS (ht rfl) Qe) ?_
     refine ja ?_
     refine Qd ?_
     obtain ⟨rfl, rfl⟩ := Prod.mk.inj (oi h)
     exact Q7 .k2 (.nil) (J ())
    ·replace h := bf e5 e6
     refine Qk ?_
     obtain ⟨rfl, rfl⟩ := Prod.mk.inj (oi h)
     exact Q7 .k2 (.nil) (J ())
  ·refine Qm (ht rfl) (fun e3 => ?_) (fun e3 => ?_)
   ·replace h := bt e3 e4
    refine rs <| rt <| jm ?_
    refine jq (Xo (k := .u64) (b := 64) rfl (ht rfl) (Qy (x := 16#64) rfl) JV (Int.natCast_nonneg _)) ?_
    refine ja ?_
    refine Qd <| rt <| jm ?_
    refine jq (QS (ht rfl) Qe) ?_
    refine ja ?_
    refine Qd ?_
    obtain ⟨rfl, rfl⟩ := Prod.mk.inj (oi h)
    exact Q7 .k2 (.nil) (J ())
   ·replace h := bf e3 e4
    refine Qk ?_
    obtain ⟨rfl, rfl⟩ := Prod.mk.inj (oi h)
    exact Q7 .k2 (.nil) (J ())
 ·refine Qm (ht rfl) (fun e1 => ?_) (fun e1 => ?_)
  ·replace h := bt e1 e2
   refine rs <| rt <| jm ?_
   refine jq (Xo (k := .u64) (b := 64) rfl (ht rfl) (Qy (x := 32#64) rfl) JV (Int.natCast_nonneg _)) ?_
   refine ja ?_
   refine Qd <| rt <| jq (pa Qe) ?_
   refine Qd ?_
   obtain ⟨rfl, rfl⟩ := Prod.mk.inj (oi h)
   exact Q7 .k2 (.nil) (J ())
  ·replace h := bf e1 e2
   refine Qk ?_
   obtain ⟨rfl, rfl⟩ := Prod.mk.inj (oi h)
   exact Q7 .k2 (.nil) (J ())
theorem Qcf {G : GP} {p_x : BitVec 64} {r : Int} (h : Kw p_x = some r) : Ctr Tryz.prog G 188 [u64.slot p_x] [] (fun (_ : Unit) => i64.slot r) (fun (_ : Unit) => []) := by
 unfold Kw at h
 refine Ql Tryz.func188 rfl 8 rfl rfl fun m0 w0 b0 => ?_
 show Run _ _ _ [(0, u64.slot p_x)] _
 refine rs <| rt <| jq (pa Qe) ?_
 refine Qd <| rs <| YB QQ rfl ?_
 refine Qk <| rs <| rt <| jm ?_
 obtain ⟨r1, e2, h⟩ := bs h
 refine jq (pc tl1 (Qa7 e2)) ?_
 refine ja ?_
 refine Qd ?_
 obtain rfl := oi h
 exact Qj fun a w hst => QE hst rfl (.tmp rfl) () (fun _ _ h => h) (.nil)
theorem U7 {G : GP} (hg4 : HG4 G) {p_x : BitVec 64} {r : Int} (h : Z5 p_x = some r) : Ctr Tryz.prog G 193 [u64.slot p_x] [] (fun (_ : Unit) => i64.slot r) (fun (_ : Unit) => []) := by
 unfold Z5 at h
 refine Ql Tryz.func193 rfl 14 rfl rfl fun m0 w0 b0 => ?_
 show Run _ _ _ [(0, u64.slot p_x)] _
 refine rs <| rt <| jq (pa Qe) ?_
 refine Qd <| rs <| rs <| rt <| jm ?_
 refine jq (Qkg (k := .u64) (b := 64) (ht rfl) (Qy (x := 0#64) rfl)) ?_
 refine Qd <| Qm (ht rfl) (fun e1 => ?_) (fun e1 => ?_)
 ·replace h := bt e1 h
  refine rs <| rt <| jq (pa Qe) ?_
  refine Qd ?_
  obtain rfl := oi h
  exact Qj fun a w hst => QE hst rfl (.tmp rfl) () (fun _ _ h => h) (.nil)
 ·replace h := bf e1 h
  refine Qk <| rs <| rt <| jm ?_
  refine jm ?_
  refine jq (Qj6 (k := .u64) (b := 64) rfl rfl (ht rfl)) ?_
  refine jq (Uu (k := .u64) (b := 64) rfl rfl (ht rfl) (ht rfl)) ?_
  refine jq (Qcq (k := .u64) (b := 64) rfl rfl (ht rfl) (Qy (x := 285870213051353865#64) rfl)) ?_
  refine jq (Xo (k := .u64) (b := 64) rfl (ht rfl) (Qy (x := 58#64) rfl) JV (Int.natCast_nonneg _)) ?_
  obtain ⟨x1, e2, h⟩ := bs h
  refine jq (qi (v := Zs) hg4 (ht rfl) JV e2 (by kernel_rfl)) ?_
  refine jl ?_
  refine jq (YV (by decide) (by kernel_rfl) (ht rfl)) ?_
  refine ja ?_
  refine Qd ?_
  obtain rfl := oi h
  exact Qj fun a w hst => QE hst rfl (.tmp rfl) () (fun _ _ h => h) (.nil)
theorem WE {G : GP} (hg3 : HG3 G) (hg4 : HG4 G) {p_x : BitVec 64} {r : Int} (h : Yp p_x = some r) : Ctr Tryz.prog G 189 [u64.slot p_x] [] (fun (_ : Unit) => i64.slot r) (fun (_ : Unit) => []) := by
 unfold Yp at h
 refine Ql Tryz.func189 rfl 8 rfl rfl fun m0 w0 b0 => ?_
 show Run _ _ _ [(0, u64.slot p_x)] _
 refine rs <| rt <| jq (pa Qe) ?_
 refine Qd <| rs <| YB QQ rfl ?_
 refine Qk <| rs <| rt <| jm ?_
 obtain ⟨r1, e2, h⟩ := bs h
 refine jq (pc tl1 (U7 hg4 e2)) ?_
 refine ja ?_
 refine Qd ?_
 obtain rfl := oi h
 exact Qj fun a w hst => QE hst rfl (.tmp rfl) () (fun _ _ h => h) (.nil)
theorem Qai {G : GP} (hg3 : HG3 G) (hg4 : HG4 G) {p_from : Int} {p_to : Int} {r : Int} (h : Xy p_from p_to = some r) : Ctr Tryz.prog G 186 [i64.slot p_from, i64.slot p_to] [] (fun (_ : Unit) => i64.slot r) (fun (_ : Unit) => []) := by
 unfold Xy at h
 refine Ql Tryz.func186 rfl 22 rfl rfl fun m0 w0 b0 => ?_
 show Run _ _ _ [(0, i64.slot p_from), (1, i64.slot p_to)] _
 refine rs <| rt <| jq (pa Qe) ?_
 refine Qd <| rs <| rt <| jm ?_
 refine jm ?_
 refine jq (JF (ht rfl) (ht rfl)) ?_
 refine jq (Jp (k := .u64) (b := 64) rfl rfl (by kernel_rfl) (ht rfl) Qg) ?_
 obtain ⟨r1, e1, h⟩ := bs h
 refine jq (pc tl1 (Qcf e1)) ?_
 refine jq (JF (ht rfl) Qe) ?_
 obtain ⟨e2, h⟩ := QD h
 refine jq (KU Qe (ht rfl) Qg e2) ?_
 refine ja ?_
 refine Qd <| rs <| rs <| rt <| jm ?_
 refine jq (Vd (ht rfl) Qe) ?_
 refine Qd <| Qm (ht rfl) (fun e3 => ?_) (fun e3 => ?_)
 ·replace h := bt e3 h
  refine rt <| jm ?_
  refine jm ?_
  refine jq (Jp (k := .u64) (b := 64) rfl rfl (by kernel_rfl) (ht rfl) Qg) ?_
  obtain ⟨r2, e4, h⟩ := bs h
  refine jq (pc tl1 (WE hg3 hg4 e4)) ?_
  obtain ⟨e5, h⟩ := QD h
  refine jq (KU Qe (ht rfl) Qg e5) ?_
  obtain ⟨x1, e6, h⟩ := bs h
  refine jq (PJ.eqv (QkY (ht rfl) (ht rfl)) (oi e6)) ?_
  refine ja ?_
  refine Qd <| rs <| rt <| jm ?_
  refine ja ?_
  refine Qd ?_
  obtain rfl := oi h
  exact Qj fun a w hst => QE hst rfl (.tmp rfl) () (fun _ _ h => h) (.nil)
 ·replace h := bf e3 h
  refine Qk <| rs <| rt <| jm ?_
  refine ja ?_
  refine Qd ?_
  obtain rfl := oi h
  exact Qj fun a w hst => QE hst rfl (.tmp rfl) () (fun _ _ h => h) (.nil)
theorem UV {G : GP} (hg3 : HG3 G) (hg4 : HG4 G) {p_from : Int} {p_to : Int} {r : (List Int)} (h : ZJ p_from p_to = some r) : Ctr Tryz.prog G 173 [i64.slot p_from, i64.slot p_to] [] (fun (u0 : Value) => ov u0) (fun (u0 : Value) => [own 3 i64 u0 r]) := by
 unfold ZJ at h
 refine Ql Tryz.func173 rfl 25 rfl rfl fun m0 w0 b0 => ?_
 show Run _ _ _ [(0, i64.slot p_from), (1, i64.slot p_to)] _
 refine rs <| rt <| QC (T := 3) i64 rfl fun v1 => ?_
 refine Qd <| rs <| rs <| rt <| jm ?_
 refine jm ?_
 obtain ⟨r1, e1, h⟩ := bs h
 refine jq (pc tl2 (Ws e1)) ?_
 refine jq (ZG (ht rfl)) ?_
 refine Qd <| Qm (ht rfl) (fun e2 => ?_) (fun e2 => ?_)
 ·replace h := bt e2 h
  refine rs <| rt <| QC (T := 3) i64 rfl fun v2 => ?_
  refine Qd ?_
  obtain rfl := oi h
  exact Qj fun a w hst => QE hst rfl (.tmp rfl) v2 (fun _ _ h => h) .h1
 ·replace h := bf e2 h
  refine Qk <| rs <| rt <| QC (T := 3) i64 rfl fun v3 => ?_
  refine Qd <| rs ?_
  obtain ⟨⟨y3, y4⟩, e6, h⟩ := bs h
  refine Q2 (Γi := fun (i : Value) (s : Int × (List Int)) => [(0, i64.slot s.1), (1, i64.slot p_to), (5, ov i)]) (Hi := fun (i : Value) (s : Int × (List Int)) => [own 3 i64 i s.2]) e6 v3 (fun a w hst => (hst.sub .k3).keep .h1) ?_ ?_
  ·clear h e6
   rintro v4 ⟨y1, y2⟩ lr h
   change X2 p_to y1 y2 = some _ at h
   show Run _ _ _ [(0, i64.slot y1), (1, i64.slot p_to), (5, ov v4)] [own 3 i64 v4 y2]
   unfold X2 at h
   refine rs <| rs <| rt <| jm ?_
   refine jm ?_
   refine jq (Q5 (ht rfl) (ht rfl)) ?_
   refine Qd <| Qm (ht rfl) (fun e3 => ?_) (fun e3 => ?_)
   ·replace h := bt e3 h
    refine Qk <| QH <| rs <| rt <| jm ?_
    refine jm ?_
    obtain ⟨r2, e4, h⟩ := bs h
    refine jq (pc tl2 (Qai hg3 hg4 e4)) ?_
    refine ja ?_
    refine Qd <| rs <| rt <| jm ?_
    refine jm ?_
    refine jq (QO (T := 3) (R := i64) (.cons (ht rfl) .nil) rfl (by kernel_rfl) (by kernel_rfl)) ?_
    obtain ⟨e5, h⟩ := QD h
    refine Jg (T := 3) (E := 3) (ht rfl) .here (Jd (ht rfl)) (by kernel_rfl) (by kernel_rfl) e5 rfl fun v5 => ?_
    refine ja ?_
    refine Qd <| rt <| jm ?_
    refine jm ?_
    refine jq (QS (ht rfl) (ht rfl)) ?_
    refine ja ?_
    refine Qd <| Qp ?_
    obtain rfl := oi h
    exact Q0 v5 .k3 .h1
   ·replace h := bf e3 h
    obtain rfl := oi h
    exact Je v4 .k3 .h1
  ·rintro v6
   show Run _ _ _ [(0, i64.slot y3), (1, i64.slot p_to), (5, ov v6)] [own 3 i64 v6 y4]
   refine Q7 (Γ' := [(5, ov v6)]) (H' := [own 3 i64 v6 y4]) .k1 .h1 ?_
   refine rs <| rt <| jm ?_
   refine ja ?_
   refine Qd ?_
   obtain rfl := oi h
   exact Qj fun a w hst => QE hst rfl (.tmp rfl) v6 (fun _ _ h => h) .h1
theorem KV {G : GP} (hg3 : HG3 G) (hg4 : HG4 G) {p_r : Qr} {r : Bool} (h : Xd p_r = some r) : Ctr Tryz.prog G 172 [Qi.slot p_r] [] (fun (_ : Unit) => bl.slot r) (fun (_ : Unit) => []) := by
 unfold Xd at h
 refine Ql Tryz.func172 rfl 20 rfl rfl fun m0 w0 b0 => ?_
 show Run _ _ _ [(0, Qi.slot p_r)] _
 refine rs <| rt <| jq (QW (ht rfl)) ?_
 refine jq (pa QQ) ?_
 refine Qd <| rs ?_
 obtain ⟨r1, e1, h⟩ := bs h
 obtain ⟨y1, e3, h⟩ := bs h
 refine (We (n := 17) (Γ' := [(19, bl.slot y1)]) (H' := []) ?_ fun J => ?_)
 ·clear e3
  refine ja ?_
  refine Qd ?_
  obtain rfl := oi h
  exact Qj fun a w hst => QE hst rfl (.tmp rfl) () (fun _ _ h => h) (.nil)
 ·rcases Jj (r1) with e2 | e2
  ·replace e3 := bt e2 e3
   obtain ⟨r2, e4, e3⟩ := bind_some e3
   exact rd (n := 17) (.p (pft (ht rfl) .f) <| .p (plt (ht rfl)) <| .p (pft (ht rfl) (.t .s .f)) <| .p (plt (ht rfl)) <| .p (pc tl2 (Ws e1)) <| .m rfl <| .read (.yes (gY e2) (pft (ht rfl) .f)) <| .read (.yes (gY e2) (plt (ht rfl))) <| .read (.yes (gY e2) (pft (ht rfl) (.t .s .f))) <| .read (.yes (gY e2) (plt (ht rfl))) <| .read (.yes (gY e2) (pc tl2 (Ctr.froze (UV hg3 hg4 e4)))) <| .read (.yes (gY e2) (QR (sz := 1) (ht rfl) (by kernel_rfl))) <| .read (.yes (gY e2) (pft (ht rfl) (.t .s .s))) <| .read (.yes (gY e2) (plt (ht rfl))) <| .read (.yes (gY e2) (QR (sz := 32) (ht rfl) (by kernel_rfl))) <| .read (.yes (gY e2) (ZL (ht rfl) (ht rfl))) <| .p (pk1 e2 (ht rfl) (oi e3)) <| .nil) (Ja (Γ' := [(19, bl.slot y1)]) (H' := []) .k1 (.nil) J)
  ·replace e3 := bf e2 e3
   exact rd (n := 17) (.p (pft (ht rfl) .f) <| .p (plt (ht rfl)) <| .p (pft (ht rfl) (.t .s .f)) <| .p (plt (ht rfl)) <| .p (pc tl2 (Ws e1)) <| .m rfl <| .read (.no (gN e2)) <| .read (.no (gN e2)) <| .read (.no (gN e2)) <| .read (.no (gN e2)) <| .read (.no (gN e2)) <| .read (.no (gN e2)) <| .read (.no (gN e2)) <| .read (.no (gN e2)) <| .read (.no (gN e2)) <| .read (.no (gN e2)) <| .p (pk2 e2 QQ (oi e3)) <| .nil) (Ja (Γ' := [(19, bl.slot y1)]) (H' := []) .k1 (.nil) J)
theorem BJ {G : GP} (hg1 : HG1 G) (hg2 : HG2 G) {p_a : Qa} {p_b : Qa} {r : Qa} (h : VM p_a p_b = some r) : Ctr Tryz.prog G 176 [Qb.slot p_a, Qb.slot p_b] [] (fun (_ : Unit) => Qb.slot r) (fun (_ : Unit) => []) := by
 unfold VM at h
 refine Ql Tryz.func176 rfl 11 rfl rfl fun m0 w0 b0 => ?_
 show Run _ _ _ [(0, Qb.slot p_a), (1, Qb.slot p_b)] _
 refine rs <| rt <| jq (QW (ht rfl)) ?_
 refine jq (QW (ht rfl)) ?_
 refine al (x := (Vector.replicate 32 (0#8))) (R := Qb) (QA 32 QK) fun b1 => ?_
 refine Qd <| rs <| rd (n := 3) (.p (QO (T := 5) (R := u8) (.cons (Qy (x := 1#8) rfl) .nil) rfl (by kernel_rfl) (by kernel_rfl)) <| .p (JA (ht rfl) (by decide) (by kernel_rfl)) <| .p (JA (ht rfl) (by decide) (by kernel_rfl)) <| .nil) (Ja (Γ' := [(4, val (.pointer (some ⟨b1, 0, none⟩))), (5, (sl u8).slot ([1#8])), (6, (sl u8).slot p_a.toList), (7, (sl u8).slot p_b.toList)]) (H' := [box b1 23 Qb (Vector.replicate 32 (0#8))]) .k4 .h1 ?_)
 refine jq (QO (T := 31) (R := (sl u8)) (.cons (ht rfl) (.cons (ht rfl) (.cons (ht rfl) .nil))) rfl (by kernel_rfl) (by kernel_rfl)) ?_
 obtain ⟨r1, e1, h⟩ := bs h
 refine jq (pc tl1 (Ctr.froze (XL e1))) ?_
 obtain ⟨r2, e2, h⟩ := bs h
 refine jq (pc tl1 (Ww hg1 hg2 e2)) ?_
 refine jk (r' := r2) (ht rfl) (ht rfl) .here .a ?_
 refine Qd ?_
 obtain rfl := oi h
 exact Qj fun a w hst => QE hst rfl (.cell rfl .here (by kernel_rfl)) () (fun _ _ h => h) (.nil)
theorem qd {G : GP} (hg1 : HG1 G) (hg2 : HG2 G) {p_s : List Qu} {p_p : Qu} {v_s : Value} {r : (List Qu)} (h : XA p_s p_p = some r) : Ctr Tryz.prog G 174 [ov v_s, QJ.slot p_p] [own 247 QJ v_s p_s] (fun (u0 : Value) => ov u0) (fun (u0 : Value) => [own 247 QJ u0 r]) := by
 unfold XA at h
 refine Ql Tryz.func174 rfl 49 rfl rfl fun m0 w0 b0 => ?_
 show Run _ _ _ [(0, ov v_s), (1, QJ.slot p_p)] _
 refine rs <| rt <| BH (ht rfl) rfl fun b1 => ?_
 refine QC (T := 247) QJ rfl fun v1 => ?_
 refine Qd <| rs ?_
 obtain ⟨⟨y4, y5⟩, e10, h⟩ := bs h
 refine Q2 (Γi := fun (i : Value) (s : Qu × (List Qu)) => [(0, ov i), (3, val (.pointer (some ⟨b1, 0, none⟩)))]) (Hi := fun (i : Value) (s : Qu × (List Qu)) => [box b1 247 QJ s.1, own 247 QJ i s.2]) e10 v_s (fun a w hst => (hst.sub .k2).keep (.cons (.next .here) <| .cons (.next .here) <| .nil)) ?_ ?_
 ·clear h e10
  rintro v2 ⟨y1, y2⟩ lr h
  change J0 y1 y2 = some _ at h
  show Run _ _ _ [(0, ov v2), (3, val (.pointer (some ⟨b1, 0, none⟩)))] [box b1 247 QJ y1, own 247 QJ v2 y2]
  unfold J0 at h
  refine rs <| rs <| rt <| jm ?_
  refine jq (Xc (sz := 34) (ht rfl) (.next .here) (by kernel_rfl)) ?_
  refine jq (Vd (ht rfl) Qe) ?_
  refine Qd <| Qm (ht rfl) (fun e1 => ?_) (fun e1 => ?_)
  ·replace h := bt e1 h
   refine Qk <| QH <| rs <| rt <| jm ?_
   refine jm ?_
   refine jq (Xc (sz := 34) (ht rfl) (.next .here) (by kernel_rfl)) ?_
   refine jq (JF (ht rfl) Qe) ?_
   obtain ⟨x1, e2, h⟩ := bs h
   refine jq (Zh (ht rfl) (.next .here) (ht rfl) Qg (Jb e2).1 (Jb e2).2.1 (by kernel_rfl)) ?_
   refine jq (PJ.eqv (Xr QJ ((w64 ((y2.length : Int) - (1 : Int))).toNat) (ht rfl) (.next .here) (Jb e2).2.1 (by kernel_rfl)) (U0 e2 (Jb e2).2.1)) ?_
   refine al (x := (0, 0, (Vector.replicate 32 (0#8)))) (R := QJ) (Qn QG (Qn QG (QA 32 QK))) fun b2 => ?_
   refine jk (r' := x1) (ht rfl) (ht rfl) .here .a ?_
   refine Jn (t := 5) .here (.of_lk rfl) ?_
   refine Qd <| rs <| rs <| rt <| jq (pft (ht rfl) (.t .s .f)) ?_
   refine jl ?_
   refine jq (pfp (off := 1) (ht rfl)) ?_
   refine jq (plb (ht rfl) .here (.t .a (.t .s .f))) ?_
   refine jq (Yt (ht rfl) (ht rfl)) ?_
   refine jm ?_
   obtain ⟨y3, e4, h⟩ := bs h
   refine Ju (ι := Unit) (Γ' := fun _ => [(0, ov v2), (3, val (.pointer (some ⟨b1, 0, none⟩))), (5, Qo QJ x1), (28, bl.slot y3)]) (H' := fun _ => [box b1 247 QJ y1, own 247 QJ v2 y2]) 8 ?_ fun J => ?_
   ·intro _
    clear e4
    show Jc _ _ _ [(0, ov v2), (3, val (.pointer (some ⟨b1, 0, none⟩))), (5, Qo QJ x1), (28, bl.slot y3)] [box b1 247 QJ y1, own 247 QJ v2 y2] _
    refine Qd <| Qm (ht rfl) (fun e6 => ?_) (fun e6 => ?_)
    ·replace h := bt e6 h
     refine Qa9 fun a w hst => ?_
     refine Qae rfl ?_
     obtain rfl := oi h
     exact ⟨rfl, v2, (hst.sub .k2).keep .h2⟩
    ·replace h := bf e6 h
     refine Qk <| rs ?_
     obtain ⟨r1, e7, h⟩ := bs h
     refine rd (n := 10) (.p (pft (ht rfl) .f) <| .p (plt (ht rfl)) <| .p (pft (ht rfl) (.t .s .f)) <| .p (plt (ht rfl)) <| .p (Y7 Qe (ht rfl)) <| .p (pft (ht rfl) (.t .s .s)) <| .p (plt (ht rfl)) <| .p (pfp (off := 2) (ht rfl)) <| .p (plb (ht rfl) .here (.t .a (.t .s .s))) <| .p (pc tl2 (BJ hg1 hg2 e7)) <| .nil) (Ja (Γ' := [(0, ov v2), (3, val (.pointer (some ⟨b1, 0, none⟩))), (30, i64.slot x1.1), (33, i64.slot (w64 ((2 : Int) * x1.2.1))), (38, Qb.slot r1)]) (H' := [box b1 247 QJ y1, own 247 QJ v2 y2]) .k5 .h2 ?_)
     obtain ⟨x2, e8, h⟩ := bs h
     refine jq (PJ.eqv (J9 (R := QJ) (Qn QG (Qn QG (QA 32 QK))) (by kernel_rfl) (by kernel_rfl) rfl (.cons (ht rfl) .f (by kernel_rfl) (.cons (ht rfl) (.t .s .f) (by kernel_rfl) (.cons (ht rfl) (.t .s .s) (by kernel_rfl) .nil)))) (oi e8)) ?_
     refine jk (r' := x2) (ht rfl) (ht rfl) .here .a ?_
     refine Qd <| rt <| jm ?_
     refine jm ?_
     refine jq (Xc (sz := 34) (ht rfl) (.next .here) (by kernel_rfl)) ?_
     refine jq (JF (ht rfl) Qe) ?_
     obtain ⟨e9, h⟩ := QD h
     refine Qb8 (ht rfl) (.next .here) (ht rfl) Qg e9.1 e9.2 (by kernel_rfl) rfl fun v3 => ?_
     refine ja ?_
     refine Qd <| Qp ?_
     obtain rfl := oi h
     exact Q0 v3 .k2 (.cons (.next .here) <| .cons .here <| .nil)
   ·rcases Jj (!decide (x1.2.1 = y1.2.1)) with e3 | e3
    ·replace e4 := bt e3 e4
     refine jN e3 ?_
     refine jN e3 ?_
     refine jN e3 ?_
     refine jN e3 ?_
     refine jN e3 ?_
     refine jN e3 ?_
     refine jN e3 ?_
     refine jq (pk1 e3 QQ (oi e4)) ?_
     exact Ja .k4 .h2 (J ())
    ·replace e4 := bf e3 e4
     refine jz (pft (ht rfl) .f) e3 ?_
     refine jz (plt (ht rfl)) e3 ?_
     refine jz (pft (ht rfl) (.t .s .f)) e3 ?_
     refine jz (plt (ht rfl)) e3 ?_
     refine jz (Y7 Qe (ht rfl)) e3 ?_
     obtain ⟨e5, e4⟩ := QD e4
     refine jz (Bm (ht rfl) (ht rfl) e5) e3 ?_
     refine jz (Yt (ht rfl) Qe) e3 ?_
     refine jq (pk2 e3 (ht rfl) (oi e4)) ?_
     exact Ja .k4 .h2 (J ())
  ·replace h := bf e1 h
   obtain rfl := oi h
   exact Je v2 .k2 .h2
 ·rintro v4
  show Run _ _ _ [(0, ov v4), (3, val (.pointer (some ⟨b1, 0, none⟩)))] [box b1 247 QJ y4, own 247 QJ v4 y5]
  refine Q7 (Γ' := [(0, ov v4), (3, val (.pointer (some ⟨b1, 0, none⟩)))]) (H' := [box b1 247 QJ y4, own 247 QJ v4 y5]) .k2 .h2 ?_
  refine rs <| rt <| jm ?_
  refine jq (plb (ht rfl) .here .a) ?_
  refine jq (QO (T := 247) (R := QJ) (.cons (ht rfl) .nil) rfl (by kernel_rfl) (by kernel_rfl)) ?_
  obtain ⟨e11, h⟩ := QD h
  refine Jg (T := 247) (E := 247) (ht rfl) (.next .here) (Jd (ht rfl)) (by kernel_rfl) (by kernel_rfl) e11 rfl fun v5 => ?_
  refine ja ?_
  refine Qd ?_
  obtain rfl := oi h
  exact Qj fun a w hst => QE hst rfl (.tmp rfl) v5 (fun _ _ h => h) .h1
theorem Be {G : GP} {p_s : List Qu} {r : (List Qa)} (h : Yd p_s = some r) : Ctr Tryz.prog G 175 [(sl QJ).slot p_s] [] (fun (u0 : Value) => ov u0) (fun (u0 : Value) => [own 23 Qb u0 r]) := by
 unfold Yd at h
 refine Ql Tryz.func175 rfl 19 rfl rfl fun m0 w0 b0 => ?_
 show Run _ _ _ [(0, (sl QJ).slot p_s)] _
 refine rs <| rt <| QC (T := 23) Qb rfl fun v1 => ?_
 refine Qd <| rs <| rt <| QC (T := 23) Qb rfl fun v2 => ?_
 refine Qd <| rs <| rs <| rt <| jm ?_
 refine jq (QR (sz := 34) (ht rfl) (by kernel_rfl)) ?_
 refine jq (pm Qe) ?_
 refine Qd ?_
 obtain ⟨⟨y3, y4⟩, e4, h⟩ := bs h
 refine Q2 (Γi := fun (i : Value) (s : Int × (List Qa)) => [(3, ov i), (6, (sl QJ).slot p_s), (7, i64.slot (p_s.length : Int)), (8, i64.slot s.1)]) (Hi := fun (i : Value) (s : Int × (List Qa)) => [own 23 Qb i s.2]) e4 v2 (fun a w hst => (hst.sub .k4).keep .h1) ?_ ?_
 ·clear h e4
  rintro v3 ⟨y1, y2⟩ lr h
  change ZB p_s y1 y2 = some _ at h
  show Run _ _ _ [(3, ov v3), (6, (sl QJ).slot p_s), (7, i64.slot (p_s.length : Int)), (8, i64.slot y1)] [own 23 Qb v3 y2]
  unfold ZB at h
  refine rs <| rt <| jq (Q5 (ht rfl) (ht rfl)) ?_
  refine Qd <| rs <| Qm (ht rfl) (fun e1 => ?_) (fun e1 => ?_)
  ·replace h := bt e1 h
   refine Qk <| rs <| QH <| rs <| rt ?_
   obtain ⟨x1, e2, h⟩ := bs h
   refine jq (pix (ht rfl) (ht rfl) Qg e2) ?_
   refine jl ?_
   refine al (x := (0, 0, (Vector.replicate 32 (0#8)))) (R := QJ) (Qn QG (Qn QG (QA 32 QK))) fun b1 => ?_
   refine jk (r' := x1) (ht rfl) (ht rfl) .here .a ?_
   refine Jn (t := 5) .here (.of_lk rfl) ?_
   refine Qd <| rt <| jm ?_
   refine jq (pft (ht rfl) (.t .s .s)) ?_
   refine jl ?_
   refine jq (QO (T := 23) (R := Qb) (.cons (ht rfl) .nil) rfl (by kernel_rfl) (by kernel_rfl)) ?_
   obtain ⟨e3, h⟩ := QD h
   refine Jg (T := 23) (E := 23) (ht rfl) .here (Jd (ht rfl)) (by kernel_rfl) (by kernel_rfl) e3 rfl fun v4 => ?_
   refine ja ?_
   refine Qd <| Qp <| rt <| jq (QS (ht rfl) Qe) ?_
   refine jm ?_
   refine Qd ?_
   obtain rfl := oi h
   exact Q0 v4 .k4 .h1
  ·replace h := bf e1 h
   obtain rfl := oi h
   exact Je v3 .k4 .h1
 ·rintro v5
  show Run _ _ _ [(3, ov v5), (6, (sl QJ).slot p_s), (7, i64.slot (p_s.length : Int)), (8, i64.slot y3)] [own 23 Qb v5 y4]
  refine Q7 (Γ' := [(3, ov v5)]) (H' := [own 23 Qb v5 y4]) .k1 .h1 ?_
  refine rs <| rt <| jm ?_
  refine ja ?_
  refine Qd ?_
  obtain rfl := oi h
  exact Qj fun a w hst => QE hst rfl (.tmp rfl) v5 (fun _ _ h => h) .h1
theorem Qcc {G : GP} (hg1 : HG1 G) (hg2 : HG2 G) (hg3 : HG3 G) (hg4 : HG4 G) {p_a : Qr} {p_b : Qr} {r : Qr × Int} (h : X8 p_a p_b = some r) : Ctr Tryz.prog G 152 [Qi.slot p_a, Qi.slot p_b] [] (fun (_ : Unit) => tup [Qi.slot r.1, i64.slot r.2]) (fun (_ : Unit) => []) := by
 unfold X8 at h
 refine Ql Tryz.func152 rfl 71 rfl rfl fun m0 w0 b0 => ?_
 show Run _ _ _ [(0, Qi.slot p_a), (1, Qi.slot p_b)] _
 refine rs <| rt <| jq (QW (ht rfl)) ?_
 refine jq (QW (ht rfl)) ?_
 refine al (x := (0, 0, ([] : List Qa))) (R := Qi) (Qn QG (Qn QG J7)) fun b1 => ?_
 refine jq (pa Qe) ?_
 refine Qd <| rs <| rs <| rt <| jl ?_
 obtain ⟨r1, e1, h⟩ := bs h
 refine jq (pc tl1 (KV hg3 hg4 e1)) ?_
 refine jq (ZG (ht rfl)) ?_
 refine jm ?_
 obtain ⟨y1, e3, h⟩ := bs h
 refine Ju (ι := Unit) (Γ' := fun _ => [(2, Qo Qi p_a), (3, Qo Qi p_b), (4, val (.pointer (some ⟨b1, 0, none⟩))), (19, bl.slot y1)]) (H' := fun _ => [box b1 184 Qi (0, 0, ([] : List Qa))]) 4 ?_ fun J => ?_
 ·intro _
  clear e3
  show Jc _ _ _ [(2, Qo Qi p_a), (3, Qo Qi p_b), (4, val (.pointer (some ⟨b1, 0, none⟩))), (19, bl.slot y1)] [box b1 184 Qi (0, 0, ([] : List Qa))] _
  refine jm ?_
  obtain ⟨y2, e6, h⟩ := bs h
  refine Ju (ι := Unit) (Γ' := fun _ => [(2, Qo Qi p_a), (3, Qo Qi p_b), (4, val (.pointer (some ⟨b1, 0, none⟩))), (26, bl.slot y2)]) (H' := fun _ => [box b1 184 Qi (0, 0, ([] : List Qa))]) 6 ?_ fun J => ?_
  ·intro _
   clear e6
   show Jc _ _ _ [(2, Qo Qi p_a), (3, Qo Qi p_b), (4, val (.pointer (some ⟨b1, 0, none⟩))), (26, bl.slot y2)] [box b1 184 Qi (0, 0, ([] : List Qa))] _
   refine Qd <| Qm (ht rfl) (fun e7 => ?_) (fun e7 => ?_)
   ·replace h := bt e7 h
    refine rs <| rt <| jq (J9 (R := Qi) (Qn QG (Qn QG J7)) (by kernel_rfl) (by kernel_rfl) rfl .nil) ?_
    refine jk (r' := (0, 0, ([] : List Qa))) (ht rfl) (ht rfl) .here .a ?_
    refine jq (pa Qe) ?_
    refine Qd ?_
    obtain rfl := oi h
    exact Qj fun a w hst => JX hst rfl (.cons (.cell rfl .here (by kernel_rfl)) <| .cons (.tmp rfl) <| .nil) rfl () (fun _ _ h => h) (.nil)
   ·replace h := bf e7 h
    refine Qk <| rs <| rt <| QC (T := 247) QJ rfl fun v1 => ?_
    refine Qd <| rs <| rs <| rt <| jl ?_
    refine jl ?_
    refine jq (QO (T := 184) (R := Qi) (.cons (ht rfl) (.cons (ht rfl) .nil)) rfl (by kernel_rfl) (by kernel_rfl)) ?_
    refine jq (QR (sz := 3) (ht rfl) (by kernel_rfl)) ?_
    refine jq (pm Qe) ?_
    refine Qd ?_
    obtain ⟨⟨y11, y12⟩, e17, h⟩ := bs h
    refine Q2 (Γi := fun (i : Value) (s : Int × (List Qu)) => [(2, Qo Qi p_a), (3, Qo Qi p_b), (4, val (.pointer (some ⟨b1, 0, none⟩))), (6, ov i), (30, (sl Qi).slot ([p_a, p_b])), (31, i64.slot (([p_a, p_b]).length : Int)), (32, i64.slot s.1)]) (Hi := fun (i : Value) (s : Int × (List Qu)) => [own 247 QJ i s.2, box b1 184 Qi (0, 0, ([] : List Qa))]) e17 v1 (fun a w hst => (hst.sub .k7).keep .h2) ?_ ?_
    ·clear h e17
     rintro v2 ⟨y3, y4⟩ lr h
     change ZW p_a p_b y3 y4 = some _ at h
     show Run _ _ _ [(2, Qo Qi p_a), (3, Qo Qi p_b), (4, val (.pointer (some ⟨b1, 0, none⟩))), (6, ov v2), (30, (sl Qi).slot ([p_a, p_b])), (31, i64.slot (([p_a, p_b]).length : Int)), (32, i64.slot y3)] [own 247 QJ v2 y4, box b1 184 Qi (0, 0, ([] : List Qa))]
     unfold ZW at h
     refine rs <| rt <| jq (Q5 (ht rfl) (ht rfl)) ?_
     refine Qd <| rs <| Qm (ht rfl) (fun e8 => ?_) (fun e8 => ?_)
     ·replace h := bt e8 h
      refine Qk <| rs <| QH <| rs <| rt ?_
      obtain ⟨x1, e9, h⟩ := bs h
      refine jq (pix (ht rfl) (ht rfl) Qg e9) ?_
      refine jl ?_
      refine al (x := (0, 0, ([] : List Qa))) (R := Qi) (Qn QG (Qn QG J7)) fun b2 => ?_
      refine jk (r' := x1) (ht rfl) (ht rfl) .here .a ?_
      refine Jn (t := 8) .here (.of_lk rfl) ?_
      refine Qd <| rs <| rt <| jq (pft (ht rfl) .f) ?_
      refine jl ?_
      refine ja ?_
      refine Qd <| rs <| rt <| jq (pft (ht rfl) .f) ?_
      refine jl ?_
      refine jq (pft (ht rfl) (.t .s .f)) ?_
      refine jl ?_
      obtain ⟨r3, e10, h⟩ := bs h
      refine jq (pc tl2 (Ctr.froze (UV hg3 hg4 e10))) ?_
      refine jq (QR (sz := 1) (ht rfl) (by kernel_rfl)) ?_
      refine jq (pm Qe) ?_
      refine Qd ?_
      obtain ⟨⟨y8, y9, y10⟩, e16, h⟩ := bs h
      refine Q2 (Γi := fun (i : Value) (s : Int × Int × (List Qu)) => [(2, Qo Qi p_a), (3, Qo Qi p_b), (4, val (.pointer (some ⟨b1, 0, none⟩))), (6, ov i), (8, Qo Qi x1), (9, i64.slot s.1), (30, (sl Qi).slot ([p_a, p_b])), (31, i64.slot (([p_a, p_b]).length : Int)), (32, i64.slot y3), (42, (sl i64).slot r3), (43, i64.slot (r3.length : Int)), (44, i64.slot s.2.1)]) (Hi := fun (i : Value) (s : Int × Int × (List Qu)) => [own 247 QJ i s.2.2, box b1 184 Qi (0, 0, ([] : List Qa))]) e16 v2 (fun a w hst => (hst.sub .k12).keep .h2) ?_ ?_
      ·clear h e16
       rintro v3 ⟨y5, y6, y7⟩ lr h
       change ZC r3 x1 y5 y6 y7 = some _ at h
       show Run _ _ _ [(2, Qo Qi p_a), (3, Qo Qi p_b), (4, val (.pointer (some ⟨b1, 0, none⟩))), (6, ov v3), (8, Qo Qi x1), (9, i64.slot y5), (30, (sl Qi).slot ([p_a, p_b])), (31, i64.slot (([p_a, p_b]).length : Int)), (32, i64.slot y3), (42, (sl i64).slot r3), (43, i64.slot (r3.length : Int)), (44, i64.slot y6)] [own 247 QJ v3 y7, box b1 184 Qi (0, 0, ([] : List Qa))]
       unfold ZC at h
       refine rs <| rt <| jq (Q5 (ht rfl) (ht rfl)) ?_
       refine Qd <| rs <| Qm (ht rfl) (fun e11 => ?_) (fun e11 => ?_)
       ·replace h := bt e11 h
        refine Qk <| rs <| QH <| rs <| rt <| jm ?_
        obtain ⟨x2, e12, h⟩ := bs h
        refine jq (pix (ht rfl) (ht rfl) Qg e12) ?_
        refine jl ?_
        refine ja ?_
        refine ja ?_
        refine Qd <| rs <| rt <| jm ?_
        refine jm ?_
        refine jm ?_
        refine jq (pft (ht rfl) (.t .s .s)) ?_
        refine jl ?_
        refine jm ?_
        obtain ⟨x3, e13, h⟩ := bs h
        refine jq (pix (ht rfl) (ht rfl) Qg e13) ?_
        refine jl ?_
        obtain ⟨x4, e14, h⟩ := bs h
        refine jq (PJ.eqv (J9 (R := QJ) (Qn QG (Qn QG (QA 32 QK))) (by kernel_rfl) (by kernel_rfl) rfl (.cons (ht rfl) .f (by kernel_rfl) (.cons (ht rfl) (.t .s .f) (by kernel_rfl) (.cons (ht rfl) (.t .s .s) (by kernel_rfl) .nil)))) (oi e14)) ?_
        obtain ⟨r4, e15, h⟩ := bs h
        refine jc tl2 (qd hg1 hg2 e15) .h1 fun v4 => ?_
        refine ja ?_
        refine Qd <| rt <| jm ?_
        refine jm ?_
        refine jq (QS (ht rfl) (ht rfl)) ?_
        refine ja ?_
        refine Qd <| Qp <| rt <| jq (QS (ht rfl) Qe) ?_
        refine jm ?_
        refine Qd ?_
        obtain rfl := oi h
        exact Q0 v4 .k12 .h2
       ·replace h := bf e11 h
        obtain rfl := oi h
        exact Je v3 .k12 .h2
      ·rintro v5
       show Run _ _ _ [(2, Qo Qi p_a), (3, Qo Qi p_b), (4, val (.pointer (some ⟨b1, 0, none⟩))), (6, ov v5), (8, Qo Qi x1), (9, i64.slot y8), (30, (sl Qi).slot ([p_a, p_b])), (31, i64.slot (([p_a, p_b]).length : Int)), (32, i64.slot y3), (42, (sl i64).slot r3), (43, i64.slot (r3.length : Int)), (44, i64.slot y9)] [own 247 QJ v5 y10, box b1 184 Qi (0, 0, ([] : List Qa))]
       refine Q7 (Γ' := [(2, Qo Qi p_a), (3, Qo Qi p_b), (4, val (.pointer (some ⟨b1, 0, none⟩))), (6, ov v5), (30, (sl Qi).slot ([p_a, p_b])), (31, i64.slot (([p_a, p_b]).length : Int)), (32, i64.slot y3)]) (H' := [own 247 QJ v5 y10, box b1 184 Qi (0, 0, ([] : List Qa))]) .k7 .h2 ?_
       refine Qp <| rt <| jq (QS (ht rfl) Qe) ?_
       refine jm ?_
       refine Qd ?_
       obtain rfl := oi h
       exact Q0 v5 .k7 .h2
     ·replace h := bf e8 h
      obtain rfl := oi h
      exact Je v2 .k7 .h2
    ·rintro v6
     show Run _ _ _ [(2, Qo Qi p_a), (3, Qo Qi p_b), (4, val (.pointer (some ⟨b1, 0, none⟩))), (6, ov v6), (30, (sl Qi).slot ([p_a, p_b])), (31, i64.slot (([p_a, p_b]).length : Int)), (32, i64.slot y11)] [own 247 QJ v6 y12, box b1 184 Qi (0, 0, ([] : List Qa))]
     refine Q7 (Γ' := [(2, Qo Qi p_a), (3, Qo Qi p_b), (4, val (.pointer (some ⟨b1, 0, none⟩))), (6, ov v6)]) (H' := [own 247 QJ v6 y12, box b1 184 Qi (0, 0, ([] : List Qa))]) .k4 .h2 ?_
     refine rs ?_
     obtain ⟨r5, e18, h⟩ := bs h
     refine rd (n := 6) (.p (pft (ht rfl) .f) <| .p (plt (ht rfl)) <| .p (pft (ht rfl) (.t .s .f)) <| .p (plt (ht rfl)) <| .m rfl <| .p (QhM (QX (VD (ht rfl) .here) <| J8) (by kernel_rfl) (Be e18) (Vy _ (Kd _ _))) <| .nil) (Ja (Γ' := [(4, val (.pointer (some ⟨b1, 0, none⟩))), (65, i64.slot p_a.1), (67, i64.slot p_b.2.1), (69, (sl Qb).slot r5)]) (H' := [box b1 184 Qi (0, 0, ([] : List Qa))]) .k4 (.cons (.next .here) <| .nil) ?_)
     obtain ⟨x5, e19, h⟩ := bs h
     refine jq (PJ.eqv (J9 (R := Qi) (Qn QG (Qn QG J7)) (by kernel_rfl) (by kernel_rfl) rfl (.cons (ht rfl) .f (by kernel_rfl) (.cons (ht rfl) (.t .s .f) (by kernel_rfl) (.cons (ht rfl) (.t .s .s) (by kernel_rfl) .nil)))) (oi e19)) ?_
     refine jk (r' := x5) (ht rfl) (ht rfl) .here .a ?_
     refine jq (pa Qe) ?_
     refine Qd ?_
     obtain rfl := oi h
     exact Qj fun a w hst => JX hst rfl (.cons (.cell rfl .here (by kernel_rfl)) <| .cons (.tmp rfl) <| .nil) rfl () (fun _ _ h => h) (.nil)
  ·rcases Jj (y1) with e5 | e5
   ·replace e6 := bt e5 e6
    refine jN e5 ?_
    refine jN e5 ?_
    refine jN e5 ?_
    refine jN e5 ?_
    refine jN e5 ?_
    refine jq (pk1 e5 QQ (oi e6)) ?_
    exact Ja .k4 .h1 (J ())
   ·replace e6 := bf e5 e6
    refine jz (pft (ht rfl) (.t .s .f)) e5 ?_
    refine jz (plt (ht rfl)) e5 ?_
    refine jz (pft (ht rfl) .f) e5 ?_
    refine jz (plt (ht rfl)) e5 ?_
    refine jz (Yt (ht rfl) (ht rfl)) e5 ?_
    refine jq (pk2 e5 (ht rfl) (oi e6)) ?_
    exact Ja .k4 .h1 (J ())
 ·rcases Jj (!r1) with e2 | e2
  ·replace e3 := bt e2 e3
   refine jN e2 ?_
   refine jN e2 ?_
   refine jN e2 ?_
   refine jq (pk1 e2 QQ (oi e3)) ?_
   exact Ja .k4 .h1 (J ())
  ·replace e3 := bf e2 e3
   refine jz (plt (ht rfl)) e2 ?_
   obtain ⟨r2, e4, e3⟩ := bind_some e3
   refine jz (pc tl1 (KV hg3 hg4 e4)) e2 ?_
   refine jz (ZG (ht rfl)) e2 ?_
   refine jq (pk2 e2 (ht rfl) (oi e3)) ?_
   exact Ja .k4 .h1 (J ())
theorem Qcj {G : GP} (hg1 : HG1 G) (hg2 : HG2 G) (hg3 : HG3 G) (hg4 : HG4 G) {p_r : Qr} {r : Qa × Int} (h : Kr p_r = some r) : Ctr Tryz.prog G 153 [Qi.slot p_r] [] (fun (_ : Unit) => tup [Qb.slot r.1, i64.slot r.2]) (fun (_ : Unit) => []) := by
 unfold Kr at h
 refine Ql Tryz.func153 rfl 42 rfl rfl fun m0 w0 b0 => ?_
 show Run _ _ _ [(0, Qi.slot p_r)] _
 refine rs <| rt <| jq (QW (ht rfl)) ?_
 refine al (x := (Vector.replicate 32 (0#8))) (R := Qb) (QA 32 QK) fun b1 => ?_
 refine jq (pa Qe) ?_
 refine Qd <| rs <| rs <| rt <| jl ?_
 obtain ⟨r1, e1, h⟩ := bs h
 refine jq (pc tl1 (KV hg3 hg4 e1)) ?_
 refine jq (ZG (ht rfl)) ?_
 refine jm ?_
 obtain ⟨y1, e3, h⟩ := bs h
 refine Ju (ι := Unit) (Γ' := fun _ => [(1, Qo Qi p_r), (2, val (.pointer (some ⟨b1, 0, none⟩))), (14, bl.slot y1)]) (H' := fun _ => [box b1 23 Qb (Vector.replicate 32 (0#8))]) 4 ?_ fun J => ?_
 ·intro _
  clear e3
  show Jc _ _ _ [(1, Qo Qi p_r), (2, val (.pointer (some ⟨b1, 0, none⟩))), (14, bl.slot y1)] [box b1 23 Qb (Vector.replicate 32 (0#8))] _
  refine Qd <| Qm (ht rfl) (fun e4 => ?_) (fun e4 => ?_)
  ·replace h := bt e4 h
   refine rs <| rt <| jq (J9 (R := Qb) (QA 32 QK) (by kernel_rfl) (by kernel_rfl) rfl .nil) ?_
   refine jk (r' := (Vector.replicate 32 (0#8))) (ht rfl) (ht rfl) .here .a ?_
   refine jq (pa Qe) ?_
   refine Qd ?_
   obtain rfl := oi h
   exact Qj fun a w hst => JX hst rfl (.cons (.cell rfl .here (by kernel_rfl)) <| .cons (.tmp rfl) <| .nil) rfl () (fun _ _ h => h) (.nil)
  ·replace h := bf e4 h
   refine Qk <| rs <| rt <| jq (pft (ht rfl) (.t .s .s)) ?_
   refine jl ?_
   refine jq (QR (sz := 32) (ht rfl) (by kernel_rfl)) ?_
   refine ja ?_
   refine Qd <| rs <| rs <| rt <| jm ?_
   refine jq (ZL (ht rfl) Qe) ?_
   refine Qd <| Qm (ht rfl) (fun e5 => ?_) (fun e5 => ?_)
   ·replace h := bt e5 h
    refine rs <| rt ?_
    obtain ⟨r2, e6, h⟩ := bs h
    refine jq (pc (hc (WG (R := u8)) <| Q1) (Ww hg1 hg2 e6)) ?_
    refine jk (r' := r2) (ht rfl) (ht rfl) .here .a ?_
    refine jq (pa Qe) ?_
    refine Qd ?_
    obtain rfl := oi h
    exact Qj fun a w hst => JX hst rfl (.cons (.cell rfl .here (by kernel_rfl)) <| .cons (.tmp rfl) <| .nil) rfl () (fun _ _ h => h) (.nil)
   ·replace h := bf e5 h
    refine Qk <| rs <| rt <| jq (pft (ht rfl) (.t .s .s)) ?_
    refine jl ?_
    refine jm ?_
    refine jq (JF (ht rfl) Qe) ?_
    obtain ⟨x1, e7, h⟩ := bs h
    refine jq (pix (ht rfl) (ht rfl) Qg e7) ?_
    refine jl ?_
    refine al (x := (Vector.replicate 32 (0#8))) (R := Qb) (QA 32 QK) fun b2 => ?_
    refine jk (r' := x1) (ht rfl) (ht rfl) .here .a ?_
    refine Qd <| rs <| rs <| rt <| jm ?_
    refine jq (JF (ht rfl) Qe) ?_
    refine ja ?_
    refine Qd ?_
    obtain ⟨⟨y4, y5⟩, e11, h⟩ := bs h
    refine Q2 (Γi := fun (i : Unit) (s : Int × Qa) => [(1, Qo Qi p_r), (2, val (.pointer (some ⟨b1, 0, none⟩))), (5, val (.pointer (some ⟨b2, 0, none⟩))), (6, i64.slot s.1)]) (Hi := fun (i : Unit) (s : Int × Qa) => [box b2 23 Qb s.2, box b1 23 Qb (Vector.replicate 32 (0#8))]) e11 () (fun a w hst => (hst.sub .k4).keep .h2) ?_ ?_
    ·clear h e11
     rintro _ ⟨y2, y3⟩ lr h
     change Xv p_r y2 y3 = some _ at h
     show Run _ _ _ [(1, Qo Qi p_r), (2, val (.pointer (some ⟨b1, 0, none⟩))), (5, val (.pointer (some ⟨b2, 0, none⟩))), (6, i64.slot y2)] [box b2 23 Qb y3, box b1 23 Qb (Vector.replicate 32 (0#8))]
     unfold Xv at h
     refine rs <| rs <| rt <| jm ?_
     refine jq (Y1 (ht rfl) Qe) ?_
     refine Qd <| Qm (ht rfl) (fun e8 => ?_) (fun e8 => ?_)
     ·replace h := bt e8 h
      refine Qk <| rs <| QH ?_
      obtain ⟨x2, e9, h⟩ := bs h
      refine rd (n := 6) (.p (pft (ht rfl) (.t .s .s)) <| .p (plt (ht rfl)) <| .m rfl <| .p (pix (ht rfl) (ht rfl) Qg e9) <| .p (plt (ht rfl)) <| .p (plb (ht rfl) .here .a) <| .nil) (Ja (Γ' := [(1, Qo Qi p_r), (2, val (.pointer (some ⟨b1, 0, none⟩))), (5, val (.pointer (some ⟨b2, 0, none⟩))), (6, i64.slot y2), (38, Qb.slot x2), (39, Qb.slot y3)]) (H' := [box b2 23 Qb y3, box b1 23 Qb (Vector.replicate 32 (0#8))]) .k6 .h2 ?_)
      obtain ⟨r3, e10, h⟩ := bs h
      refine jq (pc tl2 (BJ hg1 hg2 e10)) ?_
      refine jk (r' := r3) (ht rfl) (ht rfl) .here .a ?_
      refine Qd <| Qp <| rt <| jm ?_
      refine jq (JF (ht rfl) Qe) ?_
      refine ja ?_
      refine Qd ?_
      obtain rfl := oi h
      exact Q0 () .k4 .h2
     ·replace h := bf e8 h
      obtain rfl := oi h
      exact Je () .k4 .h2
    ·rintro _
     show Run _ _ _ [(1, Qo Qi p_r), (2, val (.pointer (some ⟨b1, 0, none⟩))), (5, val (.pointer (some ⟨b2, 0, none⟩))), (6, i64.slot y4)] [box b2 23 Qb y5, box b1 23 Qb (Vector.replicate 32 (0#8))]
     refine Q7 (Γ' := [(2, val (.pointer (some ⟨b1, 0, none⟩))), (5, val (.pointer (some ⟨b2, 0, none⟩)))]) (H' := [box b2 23 Qb y5, box b1 23 Qb (Vector.replicate 32 (0#8))]) .k2 .h2 ?_
     refine rs <| rt <| jq (plb (ht rfl) .here .a) ?_
     refine jk (r' := y5) (ht rfl) (ht rfl) (.next .here) .a ?_
     refine jq (pa Qe) ?_
     refine Qd ?_
     obtain rfl := oi h
     exact Qj fun a w hst => JX hst rfl (.cons (.cell rfl .here (by kernel_rfl)) <| .cons (.tmp rfl) <| .nil) rfl () (fun _ _ h => h) (.nil)
 ·rcases Jj (!r1) with e2 | e2
  ·replace e3 := bt e2 e3
   refine jN e2 ?_
   refine jN e2 ?_
   refine jN e2 ?_
   refine jq (pk1 e2 QQ (oi e3)) ?_
   exact Ja .k3 .h1 (J ())
  ·replace e3 := bf e2 e3
   refine jz (pft (ht rfl) .f) e2 ?_
   refine jz (plt (ht rfl)) e2 ?_
   refine jz (Yt (ht rfl) Qe) e2 ?_
   refine jq (pk2 e2 (ht rfl) (oi e3)) ?_
   exact Ja .k3 .h1 (J ())
theorem B3 {G : GP} (hg1 : HG1 G) (hg2 : HG2 G) (hg3 : HG3 G) (hg4 : HG4 G) {p_root : Qa} {p_l : List Qr} {r : Bool} (h : XV p_root p_l = some r) : Ctr Tryz.prog G 111 [Qb.slot p_root, (sl Qi).slot p_l] [] (fun (_ : Unit) => bl.slot r) (fun (_ : Unit) => []) := by
 unfold XV at h
 refine Ql Tryz.func111 rfl 44 rfl rfl fun m0 w0 b0 => ?_
 refine K3 fun Qf hq1 hq2 => ?_
 show Run _ _ _ [(0, Qb.slot p_root), (1, (sl Qi).slot p_l)] _
 refine rs <| rt <| jq (QW (ht rfl)) ?_
 refine jq (pa QQ) ?_
 refine Qd <| rs <| rt <| jm ?_
 obtain ⟨x1, e1, h⟩ := bs h
 refine jq (pix (ht rfl) Qe Qg e1) ?_
 refine jl ?_
 refine al (x := (0, 0, ([] : List Qa))) (R := Qi) (Qn QG (Qn QG J7)) fun b1 => ?_
 refine jk (r' := x1) (ht rfl) (ht rfl) .here .a ?_
 refine Qd <| rs <| rs <| rt <| jm ?_
 obtain ⟨x2, e2, h⟩ := bs h
 refine jq (JN (ht rfl) (.yes Qe Qg) .no e2 (by kernel_rfl)) ?_
 refine jq (QR (sz := 3) (ht rfl) (by kernel_rfl)) ?_
 refine jq (pm Qe) ?_
 refine Qd ?_
 obtain ⟨o, e7, h⟩ := bs h
 refine V5 (Γi := fun (i : Unit) (s : Int × Qr) => [(2, Qo Qb p_root), (5, val (.pointer (some ⟨b1, 0, none⟩))), (16, (sl Qi).slot x2), (17, i64.slot (x2.length : Int)), (18, i64.slot s.1)]) (Hi := fun (i : Unit) (s : Int × Qr) => [box b1 184 Qi s.2]) (R := fun x a w => x = r → Qf a w) e7 () (fun a w hst => (hst.sub .k5).keep .h1) ?_ ?_ ?_
 ·clear h e7
  rintro _ ⟨y1, y2⟩ lr h
  change JM x2 y1 y2 = some _ at h
  show Run _ _ _ [(2, Qo Qb p_root), (5, val (.pointer (some ⟨b1, 0, none⟩))), (16, (sl Qi).slot x2), (17, i64.slot (x2.length : Int)), (18, i64.slot y1)] [box b1 184 Qi y2]
  unfold JM at h
  refine rs <| rt <| jq (Q5 (ht rfl) (ht rfl)) ?_
  refine Qd <| rs <| Qm (ht rfl) (fun e3 => ?_) (fun e3 => ?_)
  ·replace h := bt e3 h
   refine Qk <| rs <| QH <| rs <| rt ?_
   obtain ⟨x3, e4, h⟩ := bs h
   refine jq (pix (ht rfl) (ht rfl) Qg e4) ?_
   refine jl ?_
   refine al (x := (0, 0, ([] : List Qa))) (R := Qi) (Qn QG (Qn QG J7)) fun b2 => ?_
   refine jk (r' := x3) (ht rfl) (ht rfl) .here .a ?_
   refine Jn (t := 7) .here (.of_lk rfl) ?_
   refine Qd <| rs <| rt <| jq (plb (ht rfl) .here .a) ?_
   refine jl ?_
   obtain ⟨r1, e5, h⟩ := bs h
   refine jq (pc tl2 (Qcc hg1 hg2 hg3 hg4 e5)) ?_
   refine jm ?_
   refine jx ?_
   refine jx ?_
   refine al (x := (0, 0, ([] : List Qa))) (R := Qi) (Qn QG (Qn QG J7)) fun b3 => ?_
   refine jk (r' := r1.1) (ht rfl) (ht rfl) .here .a ?_
   refine Jn (t := 8) .here (.of_lk rfl) ?_
   refine ja ?_
   refine Qd <| rs <| rs <| rt <| jm ?_
   refine jq (Yt (ht rfl) Qe) ?_
   refine Qd <| Qm (ht rfl) (fun e6 => ?_) (fun e6 => ?_)
   ·replace h := bt e6 h
    refine rs <| rt <| jq (pa QQ) ?_
    refine Qd ?_
    obtain rfl := oi h
    refine Qj fun a w hst => ⟨rfl, fun hr => ?_⟩
    subst hr
    exact hq2 a w (QE hst rfl (.tmp rfl) () (fun _ _ h => h) (.nil))
   ·replace h := bf e6 h
    refine Qk <| rt <| jl ?_
    refine jk (r' := r1.1) (ht rfl) (ht rfl) .here .a ?_
    refine Qd <| Qp <| rt <| jq (QS (ht rfl) Qe) ?_
    refine jm ?_
    refine Qd ?_
    obtain rfl := oi h
    exact Q0 () .k5 .h1
  ·replace h := bf e3 h
   obtain rfl := oi h
   exact Je () .k5 .h1
 ·rintro _ ⟨y3, y4⟩ ho
  subst ho
  show Run _ _ _ [(2, Qo Qb p_root), (5, val (.pointer (some ⟨b1, 0, none⟩))), (16, (sl Qi).slot x2), (17, i64.slot (x2.length : Int)), (18, i64.slot y3)] [box b1 184 Qi y4]
  refine Q7 (Γ' := [(2, Qo Qb p_root), (5, val (.pointer (some ⟨b1, 0, none⟩)))]) (H' := [box b1 184 Qi y4]) .k2 .h1 ?_
  refine rs <| rt <| jq (plb (ht rfl) .here .a) ?_
  obtain ⟨r2, e8, h⟩ := bs h
  refine jq (pc tl1 (Qcj hg1 hg2 hg3 hg4 e8)) ?_
  refine jm ?_
  refine jx ?_
  refine jx ?_
  refine al (x := (Vector.replicate 32 (0#8))) (R := Qb) (QA 32 QK) fun b4 => ?_
  refine jk (r' := r2.1) (ht rfl) (ht rfl) .here .a ?_
  refine Jn (t := 10) .here (.of_lk rfl) ?_
  refine ja ?_
  refine Qd <| rs <| rt <| jm ?_
  refine jq (ZL (ht rfl) Qe) ?_
  refine jm ?_
  obtain ⟨y5, e10, h⟩ := bs h
  refine Ju (ι := Unit) (Γ' := fun _ => [(43, bl.slot y5)]) (H' := fun _ => []) 4 ?_ fun J => ?_
  ·intro _
   clear e10
   show Jc _ _ _ [(43, bl.slot y5)] [] _
   refine ja ?_
   refine Qd ?_
   obtain rfl := oi h
   exact Qj fun a w hst => QE hst rfl (.tmp rfl) () (fun _ _ h => h) (.nil)
  ·rcases Jj (decide (r2.2 = (0 : Int))) with e9 | e9
   ·replace e10 := bt e9 e10
    refine jz (plt (ht rfl)) e9 ?_
    refine jz (plt (ht rfl)) e9 ?_
    refine jz (Qbw (n := 2) (Qbx (e := 5) (by kernel_rfl) (by kernel_rfl) (Qd0 (by kernel_rfl))) (by decide) rfl (by kernel_rfl) (ht rfl) (ht rfl)) e9 ?_
    refine jq (pk1 e9 (ht rfl) (oi e10)) ?_
    exact Ja .k1 (.nil) (J ())
   ·replace e10 := bf e9 e10
    refine jn e9 ?_
    refine jn e9 ?_
    refine jn e9 ?_
    refine jq (pk2 e9 QQ (oi e10)) ?_
    exact Ja .k1 (.nil) (J ())
 ·intro x a w ho hR
  subst ho
  exact hq1 a w (hR (oi h))
theorem QbG {G : GP} (hg1 : HG1 G) (hg2 : HG2 G) (hg3 : HG3 G) (hg4 : HG4 G) {p_t : Xs} {p_m : Int} {p_n : Int} {p_old : Qa} {p_root : Qa} {r : Bool} (h : V6 p_t p_m p_n p_old p_root = some r) : Ctr Tryz.prog G 64 [J5.slot p_t, i64.slot p_m, i64.slot p_n, Qb.slot p_old, Qb.slot p_root] [] (fun (_ : Unit) => bl.slot r) (fun (_ : Unit) => []) := by
 unfold V6 at h
 refine Ql Tryz.func64 rfl 44 rfl rfl fun m0 w0 b0 => ?_
 show Run _ _ _ [(0, J5.slot p_t), (1, i64.slot p_m), (2, i64.slot p_n), (3, Qb.slot p_old), (4, Qb.slot p_root)] _
 refine rs <| rt <| jq (QW (ht rfl)) ?_
 refine jq (QW (ht rfl)) ?_
 refine jq (QW (ht rfl)) ?_
 refine jq (pa QQ) ?_
 refine Qd <| rs <| rs <| rt <| jm ?_
 refine jq (Q5 (ht rfl) Qe) ?_
 refine jm ?_
 obtain ⟨y1, e2, h⟩ := bs h
 refine Ju (ι := Unit) (Γ' := fun _ => [(1, i64.slot p_m), (2, i64.slot p_n), (5, Qo J5 p_t), (8, Qo Qb p_old), (9, Qo Qb p_root), (19, bl.slot y1)]) (H' := fun _ => []) 4 ?_ fun J => ?_
 ·intro _
  clear e2
  show Jc _ _ _ [(1, i64.slot p_m), (2, i64.slot p_n), (5, Qo J5 p_t), (8, Qo Qb p_old), (9, Qo Qb p_root), (19, bl.slot y1)] [] _
  refine jm ?_
  obtain ⟨y2, e4, h⟩ := bs h
  refine Ju (ι := Unit) (Γ' := fun _ => [(1, i64.slot p_m), (2, i64.slot p_n), (5, Qo J5 p_t), (8, Qo Qb p_old), (9, Qo Qb p_root), (23, bl.slot y2)]) (H' := fun _ => []) 3 ?_ fun J => ?_
  ·intro _
   clear e4
   show Jc _ _ _ [(1, i64.slot p_m), (2, i64.slot p_n), (5, Qo J5 p_t), (8, Qo Qb p_old), (9, Qo Qb p_root), (23, bl.slot y2)] [] _
   refine Qd <| Qm (ht rfl) (fun e5 => ?_) (fun e5 => ?_)
   ·replace h := bt e5 h
    refine rs <| rt <| jq (pa QQ) ?_
    refine Qd ?_
    obtain rfl := oi h
    exact Qj fun a w hst => QE hst rfl (.tmp rfl) () (fun _ _ h => h) (.nil)
   ·replace h := bf e5 h
    refine Qk <| rs <| rt <| jm ?_
    refine jq (pft (ht rfl) .f) ?_
    refine jl ?_
    obtain ⟨x1, e6, h⟩ := bs h
    refine jq (PJ.eqv (J9 (R := Qi) (Qn QG (Qn QG J7)) (by kernel_rfl) (by kernel_rfl) rfl (.cons (ht rfl) (.t .s .f) (by kernel_rfl) (.cons (ht rfl) (.t .s .s) (by kernel_rfl) .nil))) (oi e6)) ?_
    refine al (x := (0, 0, ([] : List Qa))) (R := Qi) (Qn QG (Qn QG J7)) fun b1 => ?_
    refine jk (r' := x1) (ht rfl) (ht rfl) .here .a ?_
    refine Jn (t := 11) .here (.of_lk rfl) ?_
    refine Qd <| rs <| rt <| jm ?_
    refine jm ?_
    refine jq (pft (ht rfl) .s) ?_
    refine jl ?_
    obtain ⟨x2, e7, h⟩ := bs h
    refine jq (PJ.eqv (J9 (R := Qi) (Qn QG (Qn QG J7)) (by kernel_rfl) (by kernel_rfl) rfl (.cons (ht rfl) .f (by kernel_rfl) (.cons (ht rfl) (.t .s .f) (by kernel_rfl) (.cons (ht rfl) (.t .s .s) (by kernel_rfl) .nil)))) (oi e7)) ?_
    refine al (x := (0, 0, ([] : List Qa))) (R := Qi) (Qn QG (Qn QG J7)) fun b2 => ?_
    refine jk (r' := x2) (ht rfl) (ht rfl) .here .a ?_
    refine Jn (t := 12) .here (.of_lk rfl) ?_
    refine Qd <| rs <| rt <| jl ?_
    refine jl ?_
    refine jq (QO (T := 184) (R := Qi) (.cons (ht rfl) .nil) rfl (by kernel_rfl) (by kernel_rfl)) ?_
    obtain ⟨r1, e8, h⟩ := bs h
    refine jq (pc tl2 (B3 hg1 hg2 hg3 hg4 e8)) ?_
    refine jm ?_
    obtain ⟨y3, e10, h⟩ := bs h
    refine Ju (ι := Unit) (Γ' := fun _ => [(43, bl.slot y3)]) (H' := fun _ => []) 6 ?_ fun J => ?_
    ·intro _
     clear e10
     show Jc _ _ _ [(43, bl.slot y3)] [] _
     refine ja ?_
     refine Qd ?_
     obtain rfl := oi h
     exact Qj fun a w hst => QE hst rfl (.tmp rfl) () (fun _ _ h => h) (.nil)
    ·rcases Jj (r1) with e9 | e9
     ·replace e10 := bt e9 e10
      refine jz (plt (ht rfl)) e9 ?_
      refine jz (plt (ht rfl)) e9 ?_
      refine jz (plt (ht rfl)) e9 ?_
      refine jz (QO (T := 184) (R := Qi) (.cons (ht rfl) (.cons (ht rfl) .nil)) rfl (by kernel_rfl) (by kernel_rfl)) e9 ?_
      obtain ⟨r2, e11, e10⟩ := bind_some e10
      refine jz (pc tl2 (B3 hg1 hg2 hg3 hg4 e11)) e9 ?_
      refine jq (pk1 e9 (ht rfl) (oi e10)) ?_
      exact Ja .k1 (.nil) (J ())
     ·replace e10 := bf e9 e10
      refine jn e9 ?_
      refine jn e9 ?_
      refine jn e9 ?_
      refine jn e9 ?_
      refine jn e9 ?_
      refine jq (pk2 e9 QQ (oi e10)) ?_
      exact Ja .k1 (.nil) (J ())
  ·rcases Jj (y1) with e3 | e3
   ·replace e4 := bt e3 e4
    refine jN e3 ?_
    refine jN e3 ?_
    refine jq (pk1 e3 QQ (oi e4)) ?_
    exact Ja .k6 (.nil) (J ())
   ·replace e4 := bf e3 e4
    refine jz (pm (ht rfl)) e3 ?_
    refine jz (Vd (ht rfl) Qe) e3 ?_
    refine jq (pk2 e3 (ht rfl) (oi e4)) ?_
    exact Ja .k6 (.nil) (J ())
 ·rcases Jj (decide (p_m < (0 : Int))) with e1 | e1
  ·replace e2 := bt e1 e2
   refine jN e1 ?_
   refine jN e1 ?_
   refine jN e1 ?_
   refine jq (pk1 e1 QQ (oi e2)) ?_
   exact Ja .k6 (.nil) (J ())
  ·replace e2 := bf e1 e2
   refine jz (pm (ht rfl)) e1 ?_
   refine jz (pm (ht rfl)) e1 ?_
   refine jz (Vd (ht rfl) (ht rfl)) e1 ?_
   refine jq (pk2 e1 (ht rfl) (oi e2)) ?_
   exact Ja .k6 (.nil) (J ())
theorem V9 {G : GP} {p_s : List QZ} {p_v : QZ} {r : Int} (h : Zi p_s p_v = some r) : Ctr Tryz.prog G 112 [(sl Qs).slot p_s, Qs.slot p_v] [] (fun (_ : Unit) => i64.slot r) (fun (_ : Unit) => []) := by
 unfold Zi at h
 refine Ql Tryz.func112 rfl 19 rfl rfl fun m0 w0 b0 => ?_
 refine K3 fun Qf hq1 hq2 => ?_
 show Run _ _ _ [(0, (sl Qs).slot p_s), (1, Qs.slot p_v)] _
 refine rs <| rt <| jq (QW (ht rfl)) ?_
 refine jq (pa Qe) ?_
 refine Qd <| rs <| rs <| rt <| jm ?_
 refine jq (QR (sz := 2) (ht rfl) (by kernel_rfl)) ?_
 refine jq (pm Qe) ?_
 refine Qd ?_
 obtain ⟨o, e4, h⟩ := bs h
 refine V5 (Γi := fun (i : Unit) (s : Int) => [(0, (sl Qs).slot p_s), (3, Qo Qs p_v), (7, i64.slot (p_s.length : Int)), (8, i64.slot s)]) (Hi := fun (i : Unit) (s : Int) => []) (R := fun x a w => x = r → Qf a w) e4 () (fun a w hst => (hst.sub .k4).keep (.nil)) ?_ ?_ ?_
 ·clear h e4
  rintro _ y1 lr h
  change JK p_s p_v y1 = some _ at h
  show Run _ _ _ [(0, (sl Qs).slot p_s), (3, Qo Qs p_v), (7, i64.slot (p_s.length : Int)), (8, i64.slot y1)] []
  unfold JK at h
  refine rs <| rt <| jq (Q5 (ht rfl) (ht rfl)) ?_
  refine Qd <| rs <| Qm (ht rfl) (fun e1 => ?_) (fun e1 => ?_)
  ·replace h := bt e1 h
   refine Qk <| rs <| QH <| rs <| rt <| jm ?_
   refine ja ?_
   refine Qd <| rs ?_
   obtain ⟨x1, e2, h⟩ := bs h
   refine rd (n := 5) (.p (plt (ht rfl)) <| .m rfl <| .m rfl <| .p (pix (ht rfl) (ht rfl) Qg e2) <| .p (plt (ht rfl)) <| .nil) (Ja (Γ' := [(0, (sl Qs).slot p_s), (3, Qo Qs p_v), (5, i64.slot y1), (7, i64.slot (p_s.length : Int)), (8, i64.slot y1), (11, Qs.slot p_v), (15, Qs.slot x1)]) (H' := []) .k7 (.nil) ?_)
   refine jq (Qbw (n := 2) (Qd6 (fs := #[Field.mk "from" 3 0 false "" "rolodex/gossip" 0, Field.mk "to" 3 1 false "" "rolodex/gossip" 8]) (by kernel_rfl) (by kernel_rfl) rfl (.cons rfl (by kernel_rfl) (by kernel_rfl) (QeJ (by kernel_rfl)) (.one rfl (by kernel_rfl) (by kernel_rfl) (QeJ (by kernel_rfl))))) (by decide) rfl (by kernel_rfl) (ht rfl) (ht rfl)) ?_
   refine Qd <| Qm (ht rfl) (fun e3 => ?_) (fun e3 => ?_)
   ·replace h := bt e3 h
    refine rs <| rt <| jm ?_
    refine ja ?_
    refine Qd ?_
    obtain rfl := oi h
    refine Qj fun a w hst => ⟨rfl, fun hr => ?_⟩
    subst hr
    exact hq2 a w (QE hst rfl (.tmp rfl) () (fun _ _ h => h) (.nil))
   ·replace h := bf e3 h
    refine Qk <| Qp <| rt <| jq (QS (ht rfl) Qe) ?_
    refine jm ?_
    refine Qd ?_
    obtain rfl := oi h
    exact Q0 () .k4 (.nil)
  ·replace h := bf e1 h
   obtain rfl := oi h
   exact Je () .k4 (.nil)
 ·rintro _ y2 ho
  subst ho
  show Run _ _ _ [(0, (sl Qs).slot p_s), (3, Qo Qs p_v), (7, i64.slot (p_s.length : Int)), (8, i64.slot y2)] []
  refine Q7 (Γ' := []) (H' := []) (.nil) (.nil) ?_
  refine rs <| rt <| jq (pa Qe) ?_
  refine Qd ?_
  obtain rfl := oi h
  exact Qj fun a w hst => QE hst rfl (.tmp rfl) () (fun _ _ h => h) (.nil)
 ·intro x a w ho hR
  subst ho
  exact hq1 a w (hR (oi h))
theorem VE {G : GP} {p_s : List QZ} {p_v : QZ} {r : Bool} (h : JL p_s p_v = some r) : Ctr Tryz.prog G 65 [(sl Qs).slot p_s, Qs.slot p_v] [] (fun (_ : Unit) => bl.slot r) (fun (_ : Unit) => []) := by
 unfold JL at h
 refine Ql Tryz.func65 rfl 9 rfl rfl fun m0 w0 b0 => ?_
 show Run _ _ _ [(0, (sl Qs).slot p_s), (1, Qs.slot p_v)] _
 refine rs <| rt <| jq (QW (ht rfl)) ?_
 refine jq (pa QQ) ?_
 refine Qd <| rs <| rt <| jm ?_
 refine jl ?_
 obtain ⟨r1, e1, h⟩ := bs h
 refine jq (pc tl2 (V9 e1)) ?_
 refine jq (Y1 (ht rfl) Qe) ?_
 refine ja ?_
 refine Qd ?_
 obtain rfl := oi h
 exact Qj fun a w hst => QE hst rfl (.tmp rfl) () (fun _ _ h => h) (.nil)
end Go.Sl.W
namespace Go.Sl.W
open Go.Proofs Go.Sl Go.Sl.M
set_option maxHeartbeats 4000000
set_option maxRecDepth 100000
theorem Qao {G : GP} (hg1 : HG1 G) (hg2 : HG2 G) (hg3 : HG3 G) (hg4 : HG4 G) {p_p : (List (BitVec 8)) × (List QB) × (List Q8) × (List QZ)} {p_m : Int} {p_n : Int} {p_t : Xs} {b_p : Nat} {v_p1 : Value} {v_p2 : Value} {v_p3 : Value} {r : ((List (BitVec 8)) × (List QB) × (List Q8) × (List QZ)) × Int} (h : Vf p_p p_m p_n p_t = some r) : Ctr Tryz.prog G 24 [val (.pointer (some ⟨b_p, 0, none⟩)), i64.slot p_m, i64.slot p_n, J5.slot p_t] [box b_p 116 (prod (sl u8) (prod (exv v_p1) (prod (exv v_p2) (exv v_p3)))) (p_p.1, (), (), ()), own 33 Qh v_p1 p_p.2.1, own 123 Qv v_p2 p_p.2.2.1, own 130 Qs v_p3 p_p.2.2.2] (fun (i : Value × Value × Value) => i64.slot r.2) (fun (i : Value × Value × Value) => [box b_p 116 (prod (sl u8) (prod (exv i.1) (prod (exv i.2.1) (exv i.2.2)))) (r.1.1, (), (), ()), own 33 Qh i.1 r.1.2.1, own 123 Qv i.2.1 r.1.2.2.1, own 130 Qs i.2.2 r.1.2.2.2]) := by
 unfold Vf at h
 refine Ql Tryz.func24 rfl 88 rfl rfl fun m0 w0 b0 => ?_
 show Run _ _ _ [(0, val (.pointer (some ⟨b_p, 0, none⟩))), (1, i64.slot p_m), (2, i64.slot p_n), (3, J5.slot p_t)] _
 refine rs <| rt <| jq (QW (ht rfl)) ?_
 refine jq (pa Qe) ?_
 refine Qd <| rs <| rs <| rt <| jm ?_
 refine jq (Zz (E := 116) (by kernel_rfl) (ht rfl)) ?_
 refine jm ?_
 obtain ⟨y1, e2, h⟩ := bs h
 refine Ju (ι := Unit) (Γ' := fun _ => [(0, val (.pointer (some ⟨b_p, 0, none⟩))), (1, i64.slot p_m), (2, i64.slot p_n), (7, Qo J5 p_t), (19, bl.slot y1)]) (H' := fun _ => [box b_p 116 (prod (sl u8) (prod (exv v_p1) (prod (exv v_p2) (exv v_p3)))) (p_p.1, (), (), ()), own 33 Qh v_p1 p_p.2.1, own 123 Qv v_p2 p_p.2.2.1, own 130 Qs v_p3 p_p.2.2.2]) 3 ?_ fun J => ?_
 ·intro _
  clear e2
  show Jc _ _ _ [(0, val (.pointer (some ⟨b_p, 0, none⟩))), (1, i64.slot p_m), (2, i64.slot p_n), (7, Qo J5 p_t), (19, bl.slot y1)] [box b_p 116 (prod (sl u8) (prod (exv v_p1) (prod (exv v_p2) (exv v_p3)))) (p_p.1, (), (), ()), own 33 Qh v_p1 p_p.2.1, own 123 Qv v_p2 p_p.2.2.1, own 130 Qs v_p3 p_p.2.2.2] _
  refine jm ?_
  obtain ⟨y2, e4, h⟩ := bs h
  refine Ju (ι := Unit) (Γ' := fun _ => [(0, val (.pointer (some ⟨b_p, 0, none⟩))), (1, i64.slot p_m), (2, i64.slot p_n), (7, Qo J5 p_t), (24, bl.slot y2)]) (H' := fun _ => [box b_p 116 (prod (sl u8) (prod (exv v_p1) (prod (exv v_p2) (exv v_p3)))) (p_p.1, (), (), ()), own 33 Qh v_p1 p_p.2.1, own 123 Qv v_p2 p_p.2.2.1, own 130 Qs v_p3 p_p.2.2.2]) 4 ?_ fun J => ?_
  ·intro _
   clear e4
   show Jc _ _ _ [(0, val (.pointer (some ⟨b_p, 0, none⟩))), (1, i64.slot p_m), (2, i64.slot p_n), (7, Qo J5 p_t), (24, bl.slot y2)] [box b_p 116 (prod (sl u8) (prod (exv v_p1) (prod (exv v_p2) (exv v_p3)))) (p_p.1, (), (), ()), own 33 Qh v_p1 p_p.2.1, own 123 Qv v_p2 p_p.2.2.1, own 130 Qs v_p3 p_p.2.2.2] _
   refine Qd <| Qm (ht rfl) (fun e5 => ?_) (fun e5 => ?_)
   ·replace h := bt e5 h
    refine rs <| rt <| jq (pa Qe) ?_
    refine Qd ?_
    obtain rfl := oi h
    exact Qj fun a w hst => QE hst rfl (.tmp rfl) (v_p1, v_p2, v_p3) (fun _ _ h => h) .h4
   ·replace h := bf e5 h
    refine Qk <| rs <| rt <| jm ?_
    refine jm ?_
    obtain ⟨r1, e6, h⟩ := bs h
    refine jq (Z4 (QX (K0 (ht rfl) .here (Zl (.next .here) (Jx (sl u8) p_p.1 (VQ (prod (exv v_p2) (exv v_p3)) ((), ()) X1)) <| Zl (.next (.next .here)) (Jx (sl u8) p_p.1 (Jx (sl Qh) p_p.2.1 (VQ (exv v_p3) () X1))) <| Zl (.next (.next (.next .here))) (Jx (sl u8) p_p.1 (Jx (sl Qh) p_p.2.1 (Jx (sl Qv) p_p.2.2.1 X1))) <| KW)) <| QX (ZY (ht rfl)) <| J8) (by kernel_rfl) (Xm e6) (Qc4 (Ul (Rep.flat_slot QaN _) (Ul (Rep.flat_slot Ux _) (Qbp))))) ?_
    refine jm ?_
    refine jx ?_
    refine jx ?_
    refine ja ?_
    refine ja ?_
    refine Qd <| rs <| rt <| jm ?_
    refine jm ?_
    obtain ⟨r2, e7, h⟩ := bs h
    refine jq (Z4 (QX (K0 (ht rfl) .here (Zl (.next .here) (Jx (sl u8) p_p.1 (VQ (prod (exv v_p2) (exv v_p3)) ((), ()) X1)) <| Zl (.next (.next .here)) (Jx (sl u8) p_p.1 (Jx (sl Qh) p_p.2.1 (VQ (exv v_p3) () X1))) <| Zl (.next (.next (.next .here))) (Jx (sl u8) p_p.1 (Jx (sl Qh) p_p.2.1 (Jx (sl Qv) p_p.2.2.1 X1))) <| KW)) <| QX (ZY (ht rfl)) <| J8) (by kernel_rfl) (Xm e7) (Qc4 (Ul (Rep.flat_slot QaN _) (Ul (Rep.flat_slot Ux _) (Qbp))))) ?_
    refine jm ?_
    refine jx ?_
    refine jx ?_
    refine ja ?_
    refine ja ?_
    refine Qd <| rs <| QH <| rs <| rt <| jm ?_
    refine jq (ZG (ht rfl)) ?_
    refine jm ?_
    obtain ⟨y3, e9, h⟩ := bs h
    refine Ju (ι := Unit) (Γ' := fun _ => [(0, val (.pointer (some ⟨b_p, 0, none⟩))), (1, i64.slot p_m), (2, i64.slot p_n), (7, Qo J5 p_t), (9, i64.slot r1.1), (11, i64.slot r2.1), (43, bl.slot y3)]) (H' := fun _ => [box b_p 116 (prod (sl u8) (prod (exv v_p1) (prod (exv v_p2) (exv v_p3)))) (p_p.1, (), (), ()), own 33 Qh v_p1 p_p.2.1, own 123 Qv v_p2 p_p.2.2.1, own 130 Qs v_p3 p_p.2.2.2]) 3 ?_ fun J => ?_
    ·intro _
     clear e9
     show Jc _ _ _ [(0, val (.pointer (some ⟨b_p, 0, none⟩))), (1, i64.slot p_m), (2, i64.slot p_n), (7, Qo J5 p_t), (9, i64.slot r1.1), (11, i64.slot r2.1), (43, bl.slot y3)] [box b_p 116 (prod (sl u8) (prod (exv v_p1) (prod (exv v_p2) (exv v_p3)))) (p_p.1, (), (), ()), own 33 Qh v_p1 p_p.2.1, own 123 Qv v_p2 p_p.2.2.1, own 130 Qs v_p3 p_p.2.2.2] _
     refine ja ?_
     refine Qd <| Qm (ht rfl) (fun e10 => ?_) (fun e10 => ?_)
     ·replace h := bt e10 h
      refine rs <| rt <| jq (pa Qe) ?_
      refine Qd ?_
      obtain rfl := oi h
      exact Qj fun a w hst => QE hst rfl (.tmp rfl) (v_p1, v_p2, v_p3) (fun _ _ h => h) .h4
     ·replace h := bf e10 h
      refine rs ?_
      obtain ⟨x1, e11, h⟩ := bs h
      obtain ⟨x2, e12, h⟩ := bs h
      refine rd (n := 21) (.p (plt (ht rfl)) <| .m rfl <| .m rfl <| .m rfl <| .p (Qt (ht rfl)) <| .p (pfp (off := 1) (ht rfl)) <| .p (plb (ht rfl) .here (.t .a (.t .s .f))) <| .m rfl <| .p (Zh (ht rfl) (.next .here) (ht rfl) Qg (Jb e11).1 (Jb e11).2.1 (by kernel_rfl)) <| .p (W2 (off := 0) (ht rfl) (by kernel_rfl)) <| .p (q7 (o1 := 0 + 0) (off := 34) (ht rfl) (by kernel_rfl)) <| .p (Bs Qh r1.1 (ht rfl) (.next .here) e11 (.t (.t .a .f) (.t .s (.t .s .s))) (by kernel_rfl) rfl) <| .m rfl <| .p (Qt (ht rfl)) <| .p (pfp (off := 1) (ht rfl)) <| .p (plb (ht rfl) .here (.t .a (.t .s .f))) <| .m rfl <| .p (Zh (ht rfl) (.next .here) (ht rfl) Qg (Jb e12).1 (Jb e12).2.1 (by kernel_rfl)) <| .p (W2 (off := 0) (ht rfl) (by kernel_rfl)) <| .p (q7 (o1 := 0 + 0) (off := 34) (ht rfl) (by kernel_rfl)) <| .p (Bs Qh r2.1 (ht rfl) (.next .here) e12 (.t (.t .a .f) (.t .s (.t .s .s))) (by kernel_rfl) rfl) <| .nil) (Ja (Γ' := [(0, val (.pointer (some ⟨b_p, 0, none⟩))), (1, i64.slot p_m), (2, i64.slot p_n), (45, J5.slot p_t), (46, i64.slot p_m), (47, i64.slot p_n), (56, Qb.slot x1.1.2.2.2), (65, Qb.slot x2.1.2.2.2)]) (H' := [box b_p 116 (prod (sl u8) (prod (exv v_p1) (prod (exv v_p2) (exv v_p3)))) (p_p.1, (), (), ()), own 33 Qh v_p1 p_p.2.1, own 123 Qv v_p2 p_p.2.2.1, own 130 Qs v_p3 p_p.2.2.2]) .k8 .h4 ?_)
      obtain ⟨r3, e13, h⟩ := bs h
      refine jq (pc tl5 (QbG hg1 hg2 hg3 hg4 e13)) ?_
      refine jq (ZG (ht rfl)) ?_
      refine ja ?_
      refine Qd <| Qm (ht rfl) (fun e14 => ?_) (fun e14 => ?_)
      ·replace h := bt e14 h
       refine rs <| rt <| jq (pa Qe) ?_
       refine Qd ?_
       obtain rfl := oi h
       exact Qj fun a w hst => QE hst rfl (.tmp rfl) (v_p1, v_p2, v_p3) (fun _ _ h => h) .h4
      ·replace h := bf e14 h
       refine Qk <| Qp <| rs <| rs <| rt <| jm ?_
       refine jm ?_
       obtain ⟨x3, e15, h⟩ := bs h
       refine jq (PJ.eqv (J9 (R := Qs) (Qn QG QG) (by kernel_rfl) (by kernel_rfl) rfl (.cons (ht rfl) .f (by kernel_rfl) (.cons (ht rfl) .s (by kernel_rfl) .nil))) (oi e15)) ?_
       refine al (x := (0, 0)) (R := Qs) (Qn QG QG) fun b1 => ?_
       refine jk (r' := x3) (ht rfl) (ht rfl) .here .a ?_
       refine Jn (t := 13) .here (.of_lk rfl) ?_
       refine Qd <| rs <| rd (n := 5) (.m rfl <| .p (Qt (ht rfl)) <| .p (pfp (off := 3) (ht rfl)) <| .p (plb (ht rfl) .here (.t .a (.t .s (.t .s .s)))) <| .p (plt (ht rfl)) <| .nil) (Ja (Γ' := [(0, val (.pointer (some ⟨b_p, 0, none⟩))), (13, Qo Qs x3), (74, ov v_p3), (75, Qs.slot x3)]) (H' := [box b_p 116 (prod (sl u8) (prod (exv v_p1) (prod (exv v_p2) (exv v_p3)))) (p_p.1, (), (), ()), own 33 Qh v_p1 p_p.2.1, own 123 Qv v_p2 p_p.2.2.1, own 130 Qs v_p3 p_p.2.2.2]) .k4 .h4 ?_)
       obtain ⟨r4, e16, h⟩ := bs h
       refine jq (Z4 (QX (VD (ht rfl) (.next (.next (.next .here)))) <| QX (ZY (ht rfl)) <| J8) (by kernel_rfl) (VE e16) (Rep.flat_slot Ux _)) ?_
       refine jq (ZG (ht rfl)) ?_
       refine Qd <| Qm (ht rfl) (fun e17 => ?_) (fun e17 => ?_)
       ·replace h := bt e17 h
        obtain ⟨e18, h⟩ := QD h
        refine XB (H' := [own 130 Qs v_p3 p_p.2.2.2, box b_p 116 (prod (sl u8) (prod (exv v_p1) (prod (exv v_p2) (exv v_p3)))) (p_p.1, (), (), ()), own 33 Qh v_p1 p_p.2.1, own 123 Qv v_p2 p_p.2.2.1]) (.cons (.next (.next (.next .here))) <| .cons .here <| .cons .here <| .cons .here <| .nil) ?_
        refine rdL (n := 8) (H := [box b_p 116 (prod (sl u8) (prod (exv v_p1) (prod (exv v_p2) (exv v_p3)))) (p_p.1, (), (), ()), own 33 Qh v_p1 p_p.2.1, own 123 Qv v_p2 p_p.2.2.1]) (Ls := [⟨[own 130 Qs v_p3 p_p.2.2.2], [(7, ⟨Value, fun (v1 : Value) => [own 130 Qs v1 (p_p.2.2.2 ++ ([x3]))], fun (v1 : Value) => [(85, ov v1)]⟩)]⟩]) (.m rfl <| .m rfl <| .p (Qt (ht rfl)) <| .p (pfp (off := 3) (ht rfl)) <| .p (plb (ht rfl) .here (.t .a (.t .s (.t .s .s)))) <| .p (plt (ht rfl)) <| .p (QO (T := 130) (R := Qs) (.cons (ht rfl) .nil) rfl (by kernel_rfl) (by kernel_rfl)) <| .step 0 rfl .here (.inl rfl) (fun i => ⟨_, _, fun j => j, (Qdk (T := 130) (E := 130) (ht rfl) .here (Jd (ht rfl)) (by kernel_rfl) (by kernel_rfl) e18 rfl), fun _ => rfl, VY, Bu⟩) <| .nil) ?_
        rintro v1
        refine Ja (Γ' := [(78, val (.pointer (some ⟨b_p, 0, none⟩))), (85, ov v1)]) (H' := [own 130 Qs v1 (p_p.2.2.2 ++ ([x3])), box b_p 116 (prod (sl u8) (prod (exv v_p1) (prod (exv v_p2) (exv v_p3)))) (p_p.1, (), (), ()), own 33 Qh v_p1 p_p.2.1, own 123 Qv v_p2 p_p.2.2.1]) .k2 .h4 ?_
        refine jq (Qt (ht rfl)) ?_
        refine jq (pfp (off := 3) (ht rfl)) ?_
        refine Bt (p_p.1, (), (), ()) (ht rfl) (ht rfl) (.next .here) (UN (sl u8) p_p.1 (UN (exv v_p1) () (UN (exv v_p2) () QaD))) (by kernel_rfl) ?_
        refine Qd <| rs <| rt <| jq (pa Qe) ?_
        refine Qd ?_
        obtain rfl := oi h
        exact Qj fun a w hst => QE hst rfl (.tmp rfl) (v_p1, v_p2, v1) (fun _ _ h => h) (.cons .here <| .cons (.next .here) <| .cons (.next .here) <| .cons .here <| .nil)
       ·replace h := bf e17 h
        refine Qk <| rs <| rt <| jq (pa Qe) ?_
        refine Qd ?_
        obtain rfl := oi h
        exact Qj fun a w hst => QE hst rfl (.tmp rfl) (v_p1, v_p2, v_p3) (fun _ _ h => h) .h4
    ·rcases Jj (!r1.2) with e8 | e8
     ·replace e9 := bt e8 e9
      refine jN e8 ?_
      refine jN e8 ?_
      refine jq (pk1 e8 QQ (oi e9)) ?_
      exact Ja .k7 .h4 (J ())
     ·replace e9 := bf e8 e9
      refine jz (pm (ht rfl)) e8 ?_
      refine jz (ZG (ht rfl)) e8 ?_
      refine jq (pk2 e8 (ht rfl) (oi e9)) ?_
      exact Ja .k7 .h4 (J ())
  ·rcases Jj (y1) with e3 | e3
   ·replace e4 := bt e3 e4
    refine jN e3 ?_
    refine jN e3 ?_
    refine jN e3 ?_
    refine jq (pk1 e3 QQ (oi e4)) ?_
    exact Ja .k5 .h4 (J ())
   ·replace e4 := bf e3 e4
    refine jz (pm (ht rfl)) e3 ?_
    refine jz (pm (ht rfl)) e3 ?_
    refine jz (Y1 (ht rfl) (ht rfl)) e3 ?_
    refine jq (pk2 e3 (ht rfl) (oi e4)) ?_
    exact Ja .k5 .h4 (J ())
 ·have e1 : (false) = false := rfl
  refine jz (pm (ht rfl)) e1 ?_
  refine jz (Q5 (ht rfl) Qe) e1 ?_
  refine jq (pk2 e1 (ht rfl) (oi e2)) ?_
  exact Ja .k5 .h4 (J ())
theorem UT {G : GP} {p_a : List (BitVec 8)} {p_b : List (BitVec 8)} {r : Bool} (h : XQ p_a p_b = some r) : Ctr Tryz.prog G 13 [(sl u8).slot p_a, (sl u8).slot p_b] [] (fun (_ : Unit) => bl.slot r) (fun (_ : Unit) => []) := by
 unfold XQ at h
 refine Ql Tryz.func13 rfl 26 rfl rfl fun m0 w0 b0 => ?_
 refine K3 fun Qf hq1 hq2 => ?_
 show Run _ _ _ [(0, (sl u8).slot p_a), (1, (sl u8).slot p_b)] _
 refine rs <| rt <| jq (pa QQ) ?_
 refine Qd <| rs <| rs <| rt <| jm ?_
 refine jq (QR (sz := 1) (ht rfl) (by kernel_rfl)) ?_
 refine jm ?_
 refine jq (QR (sz := 1) (ht rfl) (by kernel_rfl)) ?_
 refine jq (Yt (ht rfl) (ht rfl)) ?_
 refine Qd <| Qm (ht rfl) (fun e1 => ?_) (fun e1 => ?_)
 ·replace h := bt e1 h
  refine rs <| rt <| jq (pa QQ) ?_
  refine Qd ?_
  obtain rfl := oi h
  exact Qj fun a w hst => QE hst rfl (.tmp rfl) () (fun _ _ h => h) (.nil)
 ·replace h := bf e1 h
  refine Qk <| rs <| rs <| rt <| jq (pa Qe) ?_
  refine Qd ?_
  obtain ⟨o, e6, h⟩ := bs h
  refine V5 (Γi := fun (i : Unit) (s : Int) => [(0, (sl u8).slot p_a), (1, (sl u8).slot p_b), (5, i64.slot s)]) (Hi := fun (i : Unit) (s : Int) => []) (R := fun x a w => x = r → Qf a w) e6 () (fun a w hst => (hst.sub .k3).keep (.nil)) ?_ ?_ ?_
  ·clear h e6
   rintro _ y1 lr h
   change ZM p_a p_b y1 = some _ at h
   show Run _ _ _ [(0, (sl u8).slot p_a), (1, (sl u8).slot p_b), (5, i64.slot y1)] []
   unfold ZM at h
   refine rs <| rs <| rt <| jm ?_
   refine jm ?_
   refine jq (QR (sz := 1) (ht rfl) (by kernel_rfl)) ?_
   refine jq (Q5 (ht rfl) (ht rfl)) ?_
   refine Qd <| Qm (ht rfl) (fun e2 => ?_) (fun e2 => ?_)
   ·replace h := bt e2 h
    refine Qk <| rs <| QH <| rs ?_
    obtain ⟨x1, e3, h⟩ := bs h
    obtain ⟨x2, e4, h⟩ := bs h
    refine rd (n := 8) (.m rfl <| .m rfl <| .p (pix (ht rfl) (ht rfl) Qg e3) <| .p (plt (ht rfl)) <| .m rfl <| .m rfl <| .p (pix (ht rfl) (ht rfl) Qg e4) <| .p (plt (ht rfl)) <| .nil) (Ja (Γ' := [(0, (sl u8).slot p_a), (1, (sl u8).slot p_b), (5, i64.slot y1), (20, u8.slot x1), (24, u8.slot x2)]) (H' := []) .k5 (.nil) ?_)
    refine jq (Qcu (k := .u8) (b := 8) (ht rfl) (ht rfl)) ?_
    refine Qd <| Qm (ht rfl) (fun e5 => ?_) (fun e5 => ?_)
    ·replace h := bt e5 h
     refine rs <| rt <| jq (pa QQ) ?_
     refine Qd ?_
     obtain rfl := oi h
     refine Qj fun a w hst => ⟨rfl, fun hr => ?_⟩
     subst hr
     exact hq2 a w (QE hst rfl (.tmp rfl) () (fun _ _ h => h) (.nil))
    ·replace h := bf e5 h
     refine Qk <| Qp <| rt <| jm ?_
     refine jq (QS (ht rfl) Qe) ?_
     refine ja ?_
     refine Qd ?_
     obtain rfl := oi h
     exact Q0 () .k3 (.nil)
   ·replace h := bf e2 h
    obtain rfl := oi h
    exact Je () .k3 (.nil)
  ·rintro _ y2 ho
   subst ho
   show Run _ _ _ [(0, (sl u8).slot p_a), (1, (sl u8).slot p_b), (5, i64.slot y2)] []
   refine Q7 (Γ' := []) (H' := []) (.nil) (.nil) ?_
   refine rs <| rt <| jq (pa QQ) ?_
   refine Qd ?_
   obtain rfl := oi h
   exact Qj fun a w hst => QE hst rfl (.tmp rfl) () (fun _ _ h => h) (.nil)
  ·intro x a w ho hR
   subst ho
   exact hq1 a w (hR (oi h))
theorem BU {G : GP} {p_a : List (List (BitVec 8))} {p_b : List (List (BitVec 8))} {r : Bool} (h : Ym p_a p_b = some r) : Ctr Tryz.prog G 26 [(sl (sl u8)).slot p_a, (sl (sl u8)).slot p_b] [] (fun (_ : Unit) => bl.slot r) (fun (_ : Unit) => []) := by
 unfold Ym at h
 refine Ql Tryz.func26 rfl 42 rfl rfl fun m0 w0 b0 => ?_
 refine K3 fun Qf hq1 hq2 => ?_
 show Run _ _ _ [(0, (sl (sl u8)).slot p_a), (1, (sl (sl u8)).slot p_b)] _
 refine rs <| rt <| jq (pa QQ) ?_
 refine Qd <| rs <| rs <| rt <| jq (pa Qe) ?_
 refine Qd ?_
 obtain ⟨o, e14, h⟩ := bs h
 refine V5 (Γi := fun (i : Unit) (s : Int) => [(0, (sl (sl u8)).slot p_a), (1, (sl (sl u8)).slot p_b), (5, i64.slot s)]) (Hi := fun (i : Unit) (s : Int) => []) (R := fun x a w => x = r → Qf a w) e14 () (fun a w hst => (hst.sub .k3).keep (.nil)) ?_ ?_ ?_
 ·clear h e14
  rintro _ y1 lr h
  change ZF p_a p_b y1 = some _ at h
  show Run _ _ _ [(0, (sl (sl u8)).slot p_a), (1, (sl (sl u8)).slot p_b), (5, i64.slot y1)] []
  unfold ZF at h
  refine rs <| rs <| rt <| jm ?_
  refine jm ?_
  refine jq (QR (sz := 1) (ht rfl) (by kernel_rfl)) ?_
  refine jq (Q5 (ht rfl) (ht rfl)) ?_
  refine Qd <| Qm (ht rfl) (fun e1 => ?_) (fun e1 => ?_)
  ·replace h := bt e1 h
   refine Qk <| rs <| QH <| rs <| rt <| jq (pa Qe) ?_
   refine Qd ?_
   obtain ⟨o, e13, h⟩ := bs h
   refine V5 (Γi := fun (i : Unit) (s : Int) => [(0, (sl (sl u8)).slot p_a), (1, (sl (sl u8)).slot p_b), (5, i64.slot y1), (6, i64.slot s)]) (Hi := fun (i : Unit) (s : Int) => []) (R := fun x a w => x = r → Qf a w) e13 () (fun a w hst => (hst.sub .k4).keep (.nil)) ?_ ?_ ?_
   ·clear h e13
    rintro _ y2 lr h
    change ZH p_b p_a y1 y2 = some _ at h
    show Run _ _ _ [(0, (sl (sl u8)).slot p_a), (1, (sl (sl u8)).slot p_b), (5, i64.slot y1), (6, i64.slot y2)] []
    unfold ZH at h
    refine rs <| rs <| rt <| jm ?_
    refine jm ?_
    refine jq (QR (sz := 1) (ht rfl) (by kernel_rfl)) ?_
    refine jq (Q5 (ht rfl) (ht rfl)) ?_
    refine Qd <| Qm (ht rfl) (fun e2 => ?_) (fun e2 => ?_)
    ·replace h := bt e2 h
     refine Qk <| rs <| QH <| rs ?_
     obtain ⟨x1, e3, h⟩ := bs h
     obtain ⟨x2, e4, h⟩ := bs h
     obtain ⟨r1, e5, h⟩ := bs h
     obtain ⟨y3, e7, h⟩ := bs h
     refine (We (n := 23) (Γ' := [(0, (sl (sl u8)).slot p_a), (1, (sl (sl u8)).slot p_b), (5, i64.slot y1), (6, i64.slot y2), (41, bl.slot y3)]) (H' := []) ?_ fun J => ?_)
     ·clear e7
      refine Qd <| Qm (ht rfl) (fun e12 => ?_) (fun e12 => ?_)
      ·replace h := bt e12 h
       refine rs <| rt <| jq (pa QQ) ?_
       refine Qd ?_
       obtain rfl := oi h
       refine Qj fun a w hst => ⟨rfl, fun hr => ?_⟩
       subst hr
       exact hq2 a w (QE hst rfl (.tmp rfl) () (fun _ _ h => h) (.nil))
      ·replace h := bf e12 h
       refine Qk <| Qp <| rt <| jm ?_
       refine jq (QS (ht rfl) Qe) ?_
       refine ja ?_
       refine Qd ?_
       obtain rfl := oi h
       exact Q0 () .k4 (.nil)
     ·rcases Jj (!r1) with e6 | e6
      ·replace e7 := bt e6 e7
       obtain ⟨x3, e8, e7⟩ := bind_some e7
       obtain ⟨r2, e9, e7⟩ := bind_some e7
       obtain ⟨x4, e10, e7⟩ := bind_some e7
       obtain ⟨r3, e11, e7⟩ := bind_some e7
       exact rd (n := 23) (.m rfl <| .m rfl <| .p (pix (ht rfl) (ht rfl) Qg e3) <| .p (plt (ht rfl)) <| .m rfl <| .m rfl <| .p (pix (ht rfl) (ht rfl) Qg e4) <| .p (plt (ht rfl)) <| .p (pc tl2 (UT e5)) <| .p (ZG (ht rfl)) <| .m rfl <| .read (.yes (gY e6) (pm (ht rfl))) <| .read (.yes (gY e6) (pm (ht rfl))) <| .read (.yes (gY e6) (pix (ht rfl) (ht rfl) Qg e8)) <| .read (.yes (gY e6) (plt (ht rfl))) <| .read (.yes (gY e6) (pc tl1 (Xz e9))) <| .read (.yes (gY e6) (pm (ht rfl))) <| .read (.yes (gY e6) (pm (ht rfl))) <| .read (.yes (gY e6) (pix (ht rfl) (ht rfl) Qg e10)) <| .read (.yes (gY e6) (plt (ht rfl))) <| .read (.yes (gY e6) (pc tl1 (Xz e11))) <| .read (.yes (gY e6) (Qbw (n := 2) (Qbx (e := 5) (by kernel_rfl) (by kernel_rfl) (Qd0 (by kernel_rfl))) (by decide) rfl (by kernel_rfl) (ht rfl) (ht rfl))) <| .p (pk1 e6 (ht rfl) (oi e7)) <| .nil) (Ja (Γ' := [(0, (sl (sl u8)).slot p_a), (1, (sl (sl u8)).slot p_b), (5, i64.slot y1), (6, i64.slot y2), (41, bl.slot y3)]) (H' := []) .k5 (.nil) J)
      ·replace e7 := bf e6 e7
       exact rd (n := 23) (.m rfl <| .m rfl <| .p (pix (ht rfl) (ht rfl) Qg e3) <| .p (plt (ht rfl)) <| .m rfl <| .m rfl <| .p (pix (ht rfl) (ht rfl) Qg e4) <| .p (plt (ht rfl)) <| .p (pc tl2 (UT e5)) <| .p (ZG (ht rfl)) <| .m rfl <| .read (.no (gN e6)) <| .read (.no (gN e6)) <| .read (.no (gN e6)) <| .read (.no (gN e6)) <| .read (.no (gN e6)) <| .read (.no (gN e6)) <| .read (.no (gN e6)) <| .read (.no (gN e6)) <| .read (.no (gN e6)) <| .read (.no (gN e6)) <| .read (.no (gN e6)) <| .p (pk2 e6 QQ (oi e7)) <| .nil) (Ja (Γ' := [(0, (sl (sl u8)).slot p_a), (1, (sl (sl u8)).slot p_b), (5, i64.slot y1), (6, i64.slot y2), (41, bl.slot y3)]) (H' := []) .k5 (.nil) J)
    ·replace h := bf e2 h
     obtain rfl := oi h
     exact Je () .k4 (.nil)
   ·rintro _ y4 ho
    subst ho
    show Run _ _ _ [(0, (sl (sl u8)).slot p_a), (1, (sl (sl u8)).slot p_b), (5, i64.slot y1), (6, i64.slot y4)] []
    refine Q7 (Γ' := [(0, (sl (sl u8)).slot p_a), (1, (sl (sl u8)).slot p_b), (5, i64.slot y1)]) (H' := []) .k3 (.nil) ?_
    refine Qp <| rt <| jm ?_
    refine jq (QS (ht rfl) Qe) ?_
    refine ja ?_
    refine Qd ?_
    obtain rfl := oi h
    exact Q0 () .k3 (.nil)
   ·intro x a w ho hR
    subst ho
    obtain rfl := oi h
    exact ⟨rfl, hR⟩
  ·replace h := bf e1 h
   obtain rfl := oi h
   exact Je () .k3 (.nil)
 ·rintro _ y5 ho
  subst ho
  show Run _ _ _ [(0, (sl (sl u8)).slot p_a), (1, (sl (sl u8)).slot p_b), (5, i64.slot y5)] []
  refine Q7 (Γ' := []) (H' := []) (.nil) (.nil) ?_
  refine rs <| rt <| jq (pa QQ) ?_
  refine Qd ?_
  obtain rfl := oi h
  exact Qj fun a w hst => QE hst rfl (.tmp rfl) () (fun _ _ h => h) (.nil)
 ·intro x a w ho hR
  subst ho
  exact hq1 a w (hR (oi h))
theorem Qal {G : GP} {p_from : Int} {p_to : Int} {r : Bool} (h : Vl p_from p_to = some r) : Ctr Tryz.prog G 114 [i64.slot p_from, i64.slot p_to] [] (fun (_ : Unit) => bl.slot r) (fun (_ : Unit) => []) := by
 unfold Vl at h
 refine Ql Tryz.func114 rfl 16 rfl rfl fun m0 w0 b0 => ?_
 show Run _ _ _ [(0, i64.slot p_from), (1, i64.slot p_to)] _
 refine rs <| rt <| jq (pa QQ) ?_
 refine Qd <| rs <| rt <| jm ?_
 refine jq (Y1 (ht rfl) Qe) ?_
 refine jm ?_
 obtain ⟨y1, e2, h⟩ := bs h
 refine Ju (ι := Unit) (Γ' := fun _ => [(1, i64.slot p_to), (11, bl.slot y1)]) (H' := fun _ => []) 4 ?_ fun J => ?_
 ·intro _
  clear e2
  show Jc _ _ _ [(1, i64.slot p_to), (11, bl.slot y1)] [] _
  refine jm ?_
  obtain ⟨y2, e4, h⟩ := bs h
  refine Ju (ι := Unit) (Γ' := fun _ => [(15, bl.slot y2)]) (H' := fun _ => []) 3 ?_ fun J => ?_
  ·intro _
   clear e4
   show Jc _ _ _ [(15, bl.slot y2)] [] _
   refine ja ?_
   refine Qd ?_
   obtain rfl := oi h
   exact Qj fun a w hst => QE hst rfl (.tmp rfl) () (fun _ _ h => h) (.nil)
  ·rcases Jj (y1) with e3 | e3
   ·replace e4 := bt e3 e4
    refine jz (pm (ht rfl)) e3 ?_
    refine jz (U8 (ht rfl) Qe) e3 ?_
    refine jq (pk1 e3 (ht rfl) (oi e4)) ?_
    exact Ja .k1 (.nil) (J ())
   ·replace e4 := bf e3 e4
    refine jn e3 ?_
    refine jn e3 ?_
    refine jq (pk2 e3 QQ (oi e4)) ?_
    exact Ja .k1 (.nil) (J ())
 ·rcases Jj (decide ((0 : Int) ≤ p_from)) with e1 | e1
  ·replace e2 := bt e1 e2
   refine jz (pm (ht rfl)) e1 ?_
   refine jz (pm (ht rfl)) e1 ?_
   refine jz (U8 (ht rfl) (ht rfl)) e1 ?_
   refine jq (pk1 e1 (ht rfl) (oi e2)) ?_
   exact Ja .k2 (.nil) (J ())
  ·replace e2 := bf e1 e2
   refine jn e1 ?_
   refine jn e1 ?_
   refine jn e1 ?_
   refine jq (pk2 e1 QQ (oi e2)) ?_
   exact Ja .k2 (.nil) (J ())
theorem qN {G : GP} {p_from : Int} {p_to : Int} {r : Int} (h : Y8 p_from p_to = some r) : Ctr Tryz.prog G 115 [i64.slot p_from, i64.slot p_to] [] (fun (_ : Unit) => i64.slot r) (fun (_ : Unit) => []) := by
 unfold Y8 at h
 refine Ql Tryz.func115 rfl 22 rfl rfl fun m0 w0 b0 => ?_
 show Run _ _ _ [(0, i64.slot p_from), (1, i64.slot p_to)] _
 refine rs <| rt <| jq (pa Qe) ?_
 refine Qd <| rs <| rt <| jq (pa Qe) ?_
 refine Qd <| rs ?_
 obtain ⟨y3, e5, h⟩ := bs h
 refine Q2 (Γi := fun (i : Unit) (s : Int) => [(0, i64.slot p_from), (1, i64.slot p_to), (5, i64.slot s)]) (Hi := fun (i : Unit) (s : Int) => []) e5 () (fun a w hst => (hst.sub .k3).keep (.nil)) ?_ ?_
 ·clear h e5
  rintro _ y1 lr h
  change ZN p_to p_from y1 = some _ at h
  show Run _ _ _ [(0, i64.slot p_from), (1, i64.slot p_to), (5, i64.slot y1)] []
  unfold ZN at h
  refine rs <| rs <| rt <| jm ?_
  refine jq (Y7 Qe (ht rfl)) ?_
  refine jm ?_
  refine jm ?_
  refine jq (JF (ht rfl) (ht rfl)) ?_
  refine jq (U8 (ht rfl) (ht rfl)) ?_
  refine jm ?_
  obtain ⟨y2, e2, h⟩ := bs h
  refine Ju (ι := Unit) (Γ' := fun _ => [(0, i64.slot p_from), (1, i64.slot p_to), (5, i64.slot y1), (18, bl.slot y2)]) (H' := fun _ => []) 6 ?_ fun J => ?_
  ·intro _
   clear e2
   show Jc _ _ _ [(0, i64.slot p_from), (1, i64.slot p_to), (5, i64.slot y1), (18, bl.slot y2)] [] _
   refine Qd <| Qm (ht rfl) (fun e4 => ?_) (fun e4 => ?_)
   ·replace h := bt e4 h
    refine Qk <| QH <| rt <| jm ?_
    refine jq (Y7 Qe (ht rfl)) ?_
    refine ja ?_
    refine Qd <| Qp ?_
    obtain rfl := oi h
    exact Q0 () .k3 (.nil)
   ·replace h := bf e4 h
    obtain rfl := oi h
    exact Je () .k3 (.nil)
  ·rcases Jj (decide ((w64 ((2 : Int) * y1)) ≤ (w64 (p_to - p_from)))) with e1 | e1
   ·replace e2 := bt e1 e2
    refine jz (pm (ht rfl)) e1 ?_
    refine jz (pm (ht rfl)) e1 ?_
    refine jz (Y7 Qe (ht rfl)) e1 ?_
    obtain ⟨e3, e2⟩ := QD e2
    refine jz (Bm (ht rfl) (ht rfl) e3) e1 ?_
    refine jz (ZL (ht rfl) Qe) e1 ?_
    refine jq (pk1 e1 (ht rfl) (oi e2)) ?_
    exact Ja .k4 (.nil) (J ())
   ·replace e2 := bf e1 e2
    refine jn e1 ?_
    refine jn e1 ?_
    refine jn e1 ?_
    refine jn e1 ?_
    refine jn e1 ?_
    refine jq (pk2 e1 QQ (oi e2)) ?_
    exact Ja .k4 (.nil) (J ())
 ·rintro _
  show Run _ _ _ [(0, i64.slot p_from), (1, i64.slot p_to), (5, i64.slot y3)] []
  refine Q7 (Γ' := [(5, i64.slot y3)]) (H' := []) .k1 (.nil) ?_
  refine rs <| rt <| jm ?_
  refine ja ?_
  refine Qd ?_
  obtain rfl := oi h
  exact Qj fun a w hst => QE hst rfl (.tmp rfl) () (fun _ _ h => h) (.nil)
theorem Vm {G : GP} {p_from : Int} {p_to : Int} {r : (List Int)} (h : Zc p_from p_to = some r) : Ctr Tryz.prog G 67 [i64.slot p_from, i64.slot p_to] [] (fun (u0 : Value) => ov u0) (fun (u0 : Value) => [own 3 i64 u0 r]) := by
 unfold Zc at h
 refine Ql Tryz.func67 rfl 25 rfl rfl fun m0 w0 b0 => ?_
 show Run _ _ _ [(0, i64.slot p_from), (1, i64.slot p_to)] _
 refine rs <| rt <| QC (T := 3) i64 rfl fun v1 => ?_
 refine Qd <| rs <| rt <| QC (T := 3) i64 rfl fun v2 => ?_
 refine Qd <| rs <| rs <| rt <| jm ?_
 refine jm ?_
 obtain ⟨r1, e1, h⟩ := bs h
 refine jq (pc tl2 (Qal e1)) ?_
 refine jq (ZG (ht rfl)) ?_
 refine Qd <| Qm (ht rfl) (fun e2 => ?_) (fun e2 => ?_)
 ·replace h := bt e2 h
  refine rs <| rt <| QC (T := 3) i64 rfl fun v3 => ?_
  refine Qd ?_
  obtain rfl := oi h
  exact Qj fun a w hst => QE hst rfl (.tmp rfl) v3 (fun _ _ h => h) .h1
 ·replace h := bf e2 h
  refine Qk <| rs ?_
  obtain ⟨⟨y3, y4⟩, e6, h⟩ := bs h
  refine Q2 (Γi := fun (i : Value) (s : Int × (List Int)) => [(0, i64.slot s.1), (1, i64.slot p_to), (5, ov i)]) (Hi := fun (i : Value) (s : Int × (List Int)) => [own 3 i64 i s.2]) e6 v2 (fun a w hst => (hst.sub .k3).keep .h1) ?_ ?_
  ·clear h e6
   rintro v4 ⟨y1, y2⟩ lr h
   change Y0 p_to y1 y2 = some _ at h
   show Run _ _ _ [(0, i64.slot y1), (1, i64.slot p_to), (5, ov v4)] [own 3 i64 v4 y2]
   unfold Y0 at h
   refine rs <| rs <| rt <| jm ?_
   refine jm ?_
   refine jq (Q5 (ht rfl) (ht rfl)) ?_
   refine Qd <| Qm (ht rfl) (fun e3 => ?_) (fun e3 => ?_)
   ·replace h := bt e3 h
    refine Qk <| QH <| rs <| rt <| jm ?_
    refine jm ?_
    obtain ⟨r2, e4, h⟩ := bs h
    refine jq (pc tl2 (qN e4)) ?_
    refine ja ?_
    refine Qd <| rs <| rt <| jm ?_
    refine jm ?_
    refine jq (QO (T := 3) (R := i64) (.cons (ht rfl) .nil) rfl (by kernel_rfl) (by kernel_rfl)) ?_
    obtain ⟨e5, h⟩ := QD h
    refine Jg (T := 3) (E := 3) (ht rfl) .here (Jd (ht rfl)) (by kernel_rfl) (by kernel_rfl) e5 rfl fun v5 => ?_
    refine ja ?_
    refine Qd <| rt <| jm ?_
    refine jm ?_
    refine jq (QS (ht rfl) (ht rfl)) ?_
    refine ja ?_
    refine Qd <| Qp ?_
    obtain rfl := oi h
    exact Q0 v5 .k3 .h1
   ·replace h := bf e3 h
    obtain rfl := oi h
    exact Je v4 .k3 .h1
  ·rintro v6
   show Run _ _ _ [(0, i64.slot y3), (1, i64.slot p_to), (5, ov v6)] [own 3 i64 v6 y4]
   refine Q7 (Γ' := [(5, ov v6)]) (H' := [own 3 i64 v6 y4]) .k1 .h1 ?_
   refine rs <| rt <| jm ?_
   refine ja ?_
   refine Qd ?_
   obtain rfl := oi h
   exact Qj fun a w hst => QE hst rfl (.tmp rfl) v6 (fun _ _ h => h) .h1
theorem UG {G : GP} {p_from : Int} {p_sizes : List Int} {r : Int} (h : ZR p_from p_sizes = some r) : Ctr Tryz.prog G 116 [i64.slot p_from, (sl i64).slot p_sizes] [] (fun (_ : Unit) => i64.slot r) (fun (_ : Unit) => []) := by
 unfold ZR at h
 refine Ql Tryz.func116 rfl 40 rfl rfl fun m0 w0 b0 => ?_
 refine K3 fun Qf hq1 hq2 => ?_
 show Run _ _ _ [(0, i64.slot p_from), (1, (sl i64).slot p_sizes)] _
 refine rs <| rt <| jq (pa Qe) ?_
 refine Qd <| rs <| rs <| rt <| jq (pa Qe) ?_
 refine Qd ?_
 obtain ⟨o, e10, h⟩ := bs h
 refine V5 (Γi := fun (i : Unit) (s : Int × Int) => [(0, i64.slot s.1), (1, (sl i64).slot p_sizes), (5, i64.slot s.2)]) (Hi := fun (i : Unit) (s : Int × Int) => []) (R := fun x a w => x = r → Qf a w) e10 () (fun a w hst => (hst.sub .k3).keep (.nil)) ?_ ?_ ?_
 ·clear h e10
  rintro _ ⟨y1, y2⟩ lr h
  change JH p_sizes y1 y2 = some _ at h
  show Run _ _ _ [(0, i64.slot y1), (1, (sl i64).slot p_sizes), (5, i64.slot y2)] []
  unfold JH at h
  refine rs <| rs <| rt <| jm ?_
  refine jq (QS (ht rfl) Qe) ?_
  refine jm ?_
  refine jq (QR (sz := 1) (ht rfl) (by kernel_rfl)) ?_
  refine jq (Q5 (ht rfl) (ht rfl)) ?_
  refine Qd <| Qm (ht rfl) (fun e1 => ?_) (fun e1 => ?_)
  ·replace h := bt e1 h
   refine Qk <| rs <| QH <| rs <| rs ?_
   obtain ⟨x1, e2, h⟩ := bs h
   obtain ⟨x2, e3, h⟩ := bs h
   obtain ⟨y3, e5, h⟩ := bs h
   refine (We (n := 20) (Γ' := [(0, i64.slot y1), (1, (sl i64).slot p_sizes), (5, i64.slot y2), (32, bl.slot y3)]) (H' := []) ?_ fun J => ?_)
   ·clear e5
    refine Qd <| Qm (ht rfl) (fun e8 => ?_) (fun e8 => ?_)
    ·replace h := bt e8 h
     refine rs <| rt <| jm ?_
     refine ja ?_
     refine Qd ?_
     obtain rfl := oi h
     refine Qj fun a w hst => ⟨rfl, fun hr => ?_⟩
     subst hr
     exact hq2 a w (QE hst rfl (.tmp rfl) () (fun _ _ h => h) (.nil))
    ·replace h := bf e8 h
     refine Qk <| rt <| jm ?_
     refine jm ?_
     refine jm ?_
     obtain ⟨x4, e9, h⟩ := bs h
     refine jq (pix (ht rfl) (ht rfl) Qg e9) ?_
     refine jl ?_
     refine jq (QS (ht rfl) (ht rfl)) ?_
     refine ja ?_
     refine Qd <| Qp <| rt <| jm ?_
     refine jq (QS (ht rfl) Qe) ?_
     refine ja ?_
     refine Qd ?_
     obtain rfl := oi h
     exact Q0 () .k3 (.nil)
   ·rcases Jj (decide (x1 = x2)) with e4 | e4
    ·replace e5 := bt e4 e5
     obtain ⟨x3, e6, e5⟩ := bind_some e5
     obtain ⟨e7, e5⟩ := QD e5
     exact rd (n := 20) (.m rfl <| .m rfl <| .p (pix (ht rfl) (ht rfl) Qg e2) <| .p (plt (ht rfl)) <| .m rfl <| .m rfl <| .p (QS (ht rfl) Qe) <| .p (pix (ht rfl) (ht rfl) Qg e3) <| .p (plt (ht rfl)) <| .p (ZL (ht rfl) (ht rfl)) <| .m rfl <| .read (.yes (gY e4) (pm (ht rfl))) <| .read (.yes (gY e4) (pm (ht rfl))) <| .read (.yes (gY e4) (pm (ht rfl))) <| .read (.yes (gY e4) (pix (ht rfl) (ht rfl) Qg e6)) <| .read (.yes (gY e4) (plt (ht rfl))) <| .read (.yes (gY e4) (Y7 Qe (ht rfl))) <| .read (.yes (gY e4) (Bm (ht rfl) (ht rfl) e7)) <| .read (.yes (gY e4) (ZL (ht rfl) Qe)) <| .p (pk1 e4 (ht rfl) (oi e5)) <| .nil) (Ja (Γ' := [(0, i64.slot y1), (1, (sl i64).slot p_sizes), (5, i64.slot y2), (32, bl.slot y3)]) (H' := []) .k4 (.nil) J)
    ·replace e5 := bf e4 e5
     exact rd (n := 20) (.m rfl <| .m rfl <| .p (pix (ht rfl) (ht rfl) Qg e2) <| .p (plt (ht rfl)) <| .m rfl <| .m rfl <| .p (QS (ht rfl) Qe) <| .p (pix (ht rfl) (ht rfl) Qg e3) <| .p (plt (ht rfl)) <| .p (ZL (ht rfl) (ht rfl)) <| .m rfl <| .read (.no (gN e4)) <| .read (.no (gN e4)) <| .read (.no (gN e4)) <| .read (.no (gN e4)) <| .read (.no (gN e4)) <| .read (.no (gN e4)) <| .read (.no (gN e4)) <| .read (.no (gN e4)) <| .p (pk2 e4 QQ (oi e5)) <| .nil) (Ja (Γ' := [(0, i64.slot y1), (1, (sl i64).slot p_sizes), (5, i64.slot y2), (32, bl.slot y3)]) (H' := []) .k4 (.nil) J)
  ·replace h := bf e1 h
   obtain rfl := oi h
   exact Je () .k3 (.nil)
 ·rintro _ ⟨y4, y5⟩ ho
  subst ho
  show Run _ _ _ [(0, i64.slot y4), (1, (sl i64).slot p_sizes), (5, i64.slot y5)] []
  refine Q7 (Γ' := []) (H' := []) (.nil) (.nil) ?_
  refine rs <| rt <| jq (pa Qe) ?_
  refine Qd ?_
  obtain rfl := oi h
  exact Qj fun a w hst => QE hst rfl (.tmp rfl) () (fun _ _ h => h) (.nil)
 ·intro x a w ho hR
  subst ho
  exact hq1 a w (hR (oi h))
theorem qP {G : GP} {p_sizes : List Int} {p_l : List Qa} {p_i : Int} {r : (List Int) × (List Qa)} (h : YE p_sizes p_l p_i = some r) : Ctr Tryz.prog G 117 [(sl i64).slot p_sizes, (sl Qb).slot p_l, i64.slot p_i] [] (fun (i : Value × Value) => tup [ov i.1, ov i.2]) (fun (i : Value × Value) => [own 3 i64 i.1 r.1, own 23 Qb i.2 r.2]) := by
 unfold YE at h
 refine Ql Tryz.func117 rfl 55 rfl rfl fun m0 w0 b0 => ?_
 show Run _ _ _ [(0, (sl i64).slot p_sizes), (1, (sl Qb).slot p_l), (2, i64.slot p_i)] _
 refine rs <| rt <| QC (T := 3) i64 rfl fun v1 => ?_
 refine QC (T := 23) Qb rfl fun v2 => ?_
 refine Qd <| rs <| rt <| QC (T := 3) i64 rfl fun v3 => ?_
 refine Qd <| rs <| rt <| QC (T := 23) Qb rfl fun v4 => ?_
 refine Qd <| rs <| rt <| jm ?_
 refine jm ?_
 refine jm ?_
 obtain ⟨x1, e1, h⟩ := bs h
 refine jq (JN (ht rfl) .no (.yes (ht rfl) Qg) e1 (by kernel_rfl)) ?_
 obtain ⟨e2, h⟩ := QD h
 refine Jg (T := 3) (E := 3) (ht rfl) (.next .here) (Jd (ht rfl)) (by kernel_rfl) (by kernel_rfl) e2 rfl fun v5 => ?_
 refine ja ?_
 refine Qd <| rs <| rt <| jm ?_
 refine jm ?_
 refine jm ?_
 obtain ⟨x2, e3, h⟩ := bs h
 refine jq (pix (ht rfl) (ht rfl) Qg e3) ?_
 refine jl ?_
 refine jq (Y7 Qe (ht rfl)) ?_
 refine jq (QO (T := 3) (R := i64) (.cons (ht rfl) .nil) rfl (by kernel_rfl) (by kernel_rfl)) ?_
 obtain ⟨e4, h⟩ := QD h
 refine Jg (T := 3) (E := 3) (ht rfl) .here (Jd (ht rfl)) (by kernel_rfl) (by kernel_rfl) e4 rfl fun v6 => ?_
 refine ja ?_
 refine Qd <| rs <| rt <| jm ?_
 refine jm ?_
 refine jm ?_
 refine jq (QS (ht rfl) Qe) ?_
 obtain ⟨x3, e5, h⟩ := bs h
 refine jq (JN (ht rfl) (.yes (ht rfl) Qg) .no e5 (by kernel_rfl)) ?_
 obtain ⟨e6, h⟩ := QD h
 refine Jg (T := 3) (E := 3) (ht rfl) .here (Jd (ht rfl)) (by kernel_rfl) (by kernel_rfl) e6 rfl fun v7 => ?_
 refine ja ?_
 refine Qd <| rs <| rt <| jm ?_
 refine jm ?_
 refine jm ?_
 obtain ⟨x4, e7, h⟩ := bs h
 refine jq (JN (ht rfl) .no (.yes (ht rfl) Qg) e7 (by kernel_rfl)) ?_
 obtain ⟨e8, h⟩ := QD h
 refine Jg (T := 23) (E := 23) (ht rfl) (.next .here) (Jd (ht rfl)) (by kernel_rfl) (by kernel_rfl) e8 rfl fun v8 => ?_
 refine ja ?_
 refine Qd <| rs ?_
 obtain ⟨x5, e9, h⟩ := bs h
 obtain ⟨x6, e10, h⟩ := bs h
 obtain ⟨r1, e11, h⟩ := bs h
 refine rd (n := 12) (.m rfl <| .m rfl <| .m rfl <| .p (pix (ht rfl) (ht rfl) Qg e9) <| .p (plt (ht rfl)) <| .m rfl <| .m rfl <| .p (QS (ht rfl) Qe) <| .p (pix (ht rfl) (ht rfl) Qg e10) <| .p (plt (ht rfl)) <| .p (pc tl2 (Kq e11)) <| .p (QO (T := 23) (R := Qb) (.cons (ht rfl) .nil) rfl (by kernel_rfl) (by kernel_rfl)) <| .nil) (Ja (Γ' := [(1, (sl Qb).slot p_l), (2, i64.slot p_i), (8, ov v7), (34, ov v8), (45, (sl Qb).slot ([r1]))]) (H' := [own 23 Qb v8 (([] : List Qa) ++ x4), own 3 i64 v7 (((([] : List Int) ++ x1) ++ ([w64 ((2 : Int) * x2)])) ++ x3)]) .k5 .h2 ?_)
 obtain ⟨e12, h⟩ := QD h
 refine Jg (T := 23) (E := 23) (ht rfl) .here (Jd (ht rfl)) (by kernel_rfl) (by kernel_rfl) e12 rfl fun v9 => ?_
 refine ja ?_
 refine Qd <| rs <| rt <| jm ?_
 refine jm ?_
 refine jm ?_
 refine jq (QS (ht rfl) Qe) ?_
 obtain ⟨x7, e13, h⟩ := bs h
 refine jq (JN (ht rfl) (.yes (ht rfl) Qg) .no e13 (by kernel_rfl)) ?_
 obtain ⟨e14, h⟩ := QD h
 refine Jg (T := 23) (E := 23) (ht rfl) .here (Jd (ht rfl)) (by kernel_rfl) (by kernel_rfl) e14 rfl fun v10 => ?_
 refine ja ?_
 refine Qd <| rs <| rt <| jm ?_
 refine jm ?_
 refine ja ?_
 refine ja ?_
 refine Qd ?_
 obtain rfl := oi h
 exact Qj fun a w hst => JX hst rfl (.cons (.tmp rfl) <| .cons (.tmp rfl) <| .nil) rfl (v7, v10) (fun _ _ h => h) (.cons (.next .here) <| .cons .here <| .nil)
theorem BN {G : GP} {p_from : Int} {p_sizes : List Int} {p_l : List Qa} {r : (List (List (BitVec 8)))} (h : Xf p_from p_sizes p_l = some r) : Ctr Tryz.prog G 68 [i64.slot p_from, (sl i64).slot p_sizes, (sl Qb).slot p_l] [] (fun (u0 : Value) => ov u0) (fun (u0 : Value) => [own 31 (sl u8) u0 r]) := by
 unfold Xf at h
 refine Ql Tryz.func68 rfl 84 rfl rfl fun m0 w0 b0 => ?_
 show Run _ _ _ [(0, i64.slot p_from), (1, (sl i64).slot p_sizes), (2, (sl Qb).slot p_l)] _
 refine rs <| rt <| QC (T := 31) (sl u8) rfl fun v1 => ?_
 refine Qd <| rs <| rt <| QC (T := 31) (sl u8) rfl fun v2 => ?_
 refine Qd <| rs <| rs <| rt <| jm ?_
 refine jm ?_
 obtain ⟨r1, e1, h⟩ := bs h
 refine jq (pc tl2 (UG e1)) ?_
 refine ja ?_
 refine Qd ?_
 obtain ⟨⟨y5, y6, y7, y8⟩, e9, h⟩ := bs h
 refine Q2 (Γi := fun (i : Value) (s : (List Int) × (List Qa) × Int × (List (List (BitVec 8)))) => [(0, i64.slot p_from), (1, (sl i64).slot s.1), (2, (sl Qb).slot s.2.1), (7, ov i), (8, i64.slot s.2.2.1)]) (Hi := fun (i : Value) (s : (List Int) × (List Qa) × Int × (List (List (BitVec 8)))) => [own 31 (sl u8) i s.2.2.2]) e9 v2 (fun a w hst => (hst.sub .k5).keep .h1) ?_ ?_
 ·clear h e9
  rintro v3 ⟨y1, y2, y3, y4⟩ lr h
  change Zv p_from y1 y2 y3 y4 = some _ at h
  show Run _ _ _ [(0, i64.slot p_from), (1, (sl i64).slot y1), (2, (sl Qb).slot y2), (7, ov v3), (8, i64.slot y3)] [own 31 (sl u8) v3 y4]
  unfold Zv at h
  refine rs <| rs <| rt <| jm ?_
  refine jq (Y1 (ht rfl) Qe) ?_
  refine Qd <| Qm (ht rfl) (fun e2 => ?_) (fun e2 => ?_)
  ·replace h := bt e2 h
   refine Qk <| rs <| QH <| rs ?_
   obtain ⟨x1, e3, h⟩ := bs h
   obtain ⟨x2, e4, h⟩ := bs h
   obtain ⟨r2, e5, h⟩ := bs h
   refine rd (n := 12) (.m rfl <| .m rfl <| .m rfl <| .p (pix (ht rfl) (ht rfl) Qg e3) <| .p (plt (ht rfl)) <| .m rfl <| .m rfl <| .p (QS (ht rfl) Qe) <| .p (pix (ht rfl) (ht rfl) Qg e4) <| .p (plt (ht rfl)) <| .p (pc tl2 (Ctr.froze (Vc e5))) <| .p (QO (T := 31) (R := (sl u8)) (.cons (ht rfl) .nil) rfl (by kernel_rfl) (by kernel_rfl)) <| .nil) (Ja (Γ' := [(0, i64.slot p_from), (1, (sl i64).slot y1), (2, (sl Qb).slot y2), (8, i64.slot y3), (21, ov v3), (32, (sl (sl u8)).slot ([r2]))]) (H' := [own 31 (sl u8) v3 y4]) .k6 .h1 ?_)
   obtain ⟨e6, h⟩ := QD h
   refine Jg (T := 31) (E := 31) (ht rfl) .here (Jd (ht rfl)) (by kernel_rfl) (by kernel_rfl) e6 rfl fun v4 => ?_
   refine ja ?_
   refine Qd <| rs <| rt <| jm ?_
   refine jm ?_
   refine jm ?_
   obtain ⟨r3, e7, h⟩ := bs h
   refine jc tl3 (qP e7) .nil fun ⟨v5, v6⟩ => ?_
   refine jm ?_
   refine jx ?_
   refine jx ?_
   refine ja ?_
   refine ja ?_
   refine Qd <| rs <| rt <| jm ?_
   refine ja ?_
   refine Qd <| rt <| jm ?_
   refine ja ?_
   refine Qd <| Qp <| rt <| jm ?_
   refine jm ?_
   obtain ⟨r4, e8, h⟩ := bs h
   refine jq (Z4 (QX (ZY (ht rfl)) <| QX (VD (ht rfl) .here) <| J8) (by kernel_rfl) (UG e8) (Rep.flat_slot QaN _)) ?_
   refine ja ?_
   refine Qd <| Qaf [1, 9, 19, 39, 41] .here (Za (.of_lk rfl) <| Za (.of_lk rfl) <| Za (.of_lk rfl) <| Za (.of_lk rfl) <| Za (.of_lk rfl) <| U2) ?_
   refine Qaf [2, 10, 40, 42] .here (Za (.of_lk rfl) <| Za (.of_lk rfl) <| Za (.of_lk rfl) <| Za (.of_lk rfl) <| U2) ?_
   obtain rfl := oi h
   exact Q0 v4 .k5 .h1
  ·replace h := bf e2 h
   obtain rfl := oi h
   exact Je v3 .k5 .h1
 ·rintro v7
  show Run _ _ _ [(0, i64.slot p_from), (1, (sl i64).slot y5), (2, (sl Qb).slot y6), (7, ov v7), (8, i64.slot y7)] [own 31 (sl u8) v7 y8]
  refine Q7 (Γ' := [(2, (sl Qb).slot y6), (7, ov v7)]) (H' := [own 31 (sl u8) v7 y8]) .k2 .h1 ?_
  refine rs ?_
  obtain ⟨⟨y11, y12⟩, e21, h⟩ := bs h
  refine Q2 (Γi := fun (i : Value) (s : (List Qa) × (List (List (BitVec 8)))) => [(2, (sl Qb).slot s.1), (7, ov i)]) (Hi := fun (i : Value) (s : (List Qa) × (List (List (BitVec 8)))) => [own 31 (sl u8) i s.2]) e21 v7 (fun a w hst => (hst.sub .k2).keep .h1) ?_ ?_
  ·clear h e21
   rintro v8 ⟨y9, y10⟩ lr h
   change Zx y9 y10 = some _ at h
   show Run _ _ _ [(2, (sl Qb).slot y9), (7, ov v8)] [own 31 (sl u8) v8 y10]
   unfold Zx at h
   refine rs <| rs <| rt <| jm ?_
   refine jq (QR (sz := 32) (ht rfl) (by kernel_rfl)) ?_
   refine jq (Vd (ht rfl) Qe) ?_
   refine Qd <| Qm (ht rfl) (fun e10 => ?_) (fun e10 => ?_)
   ·replace h := bt e10 h
    refine Qk <| QH <| rs <| rt <| jm ?_
    refine jq (QR (sz := 32) (ht rfl) (by kernel_rfl)) ?_
    refine ja ?_
    refine Qd <| rs ?_
    obtain ⟨x3, e11, h⟩ := bs h
    obtain ⟨x4, e12, h⟩ := bs h
    obtain ⟨r5, e13, h⟩ := bs h
    refine rd (n := 13) (.m rfl <| .m rfl <| .m rfl <| .p (JF (ht rfl) Qe) <| .p (pix (ht rfl) (ht rfl) Qg e11) <| .p (plt (ht rfl)) <| .m rfl <| .m rfl <| .p (JF (ht rfl) Qe) <| .p (pix (ht rfl) (ht rfl) Qg e12) <| .p (plt (ht rfl)) <| .p (pc tl2 (Ctr.froze (Vc e13))) <| .p (QO (T := 31) (R := (sl u8)) (.cons (ht rfl) .nil) rfl (by kernel_rfl) (by kernel_rfl)) <| .nil) (Ja (Γ' := [(2, (sl Qb).slot y9), (11, i64.slot (y9.length : Int)), (48, ov v8), (60, (sl (sl u8)).slot ([r5]))]) (H' := [own 31 (sl u8) v8 y10]) .k4 .h1 ?_)
    obtain ⟨e14, h⟩ := QD h
    refine Jg (T := 31) (E := 31) (ht rfl) .here (Jd (ht rfl)) (by kernel_rfl) (by kernel_rfl) e14 rfl fun v9 => ?_
    refine ja ?_
    refine Qd <| rs <| rt <| QC (T := 23) Qb rfl fun v10 => ?_
    refine Qd <| rs <| rt <| jm ?_
    refine jm ?_
    refine jm ?_
    refine jq (JF (ht rfl) Qe) ?_
    obtain ⟨x5, e15, h⟩ := bs h
    refine jq (JN (ht rfl) .no (.yes (ht rfl) Qg) e15 (by kernel_rfl)) ?_
    obtain ⟨e16, h⟩ := QD h
    refine Jg (T := 23) (E := 23) (ht rfl) .here (Jd (ht rfl)) (by kernel_rfl) (by kernel_rfl) e16 rfl fun v11 => ?_
    refine ja ?_
    refine Qd <| rs ?_
    obtain ⟨x6, e17, h⟩ := bs h
    obtain ⟨x7, e18, h⟩ := bs h
    obtain ⟨r6, e19, h⟩ := bs h
    refine rd (n := 13) (.m rfl <| .m rfl <| .m rfl <| .p (JF (ht rfl) Qe) <| .p (pix (ht rfl) (ht rfl) Qg e17) <| .p (plt (ht rfl)) <| .m rfl <| .m rfl <| .p (JF (ht rfl) Qe) <| .p (pix (ht rfl) (ht rfl) Qg e18) <| .p (plt (ht rfl)) <| .p (pc tl2 (Kq e19)) <| .p (QO (T := 23) (R := Qb) (.cons (ht rfl) .nil) rfl (by kernel_rfl) (by kernel_rfl)) <| .nil) (Ja (Γ' := [(7, ov v9), (68, ov v11), (80, (sl Qb).slot ([r6]))]) (H' := [own 23 Qb v11 (([] : List Qa) ++ x5), own 31 (sl u8) v9 (y10 ++ ([r5]))]) .k3 .h2 ?_)
    obtain ⟨e20, h⟩ := QD h
    refine Jg (T := 23) (E := 23) (ht rfl) .here (Jd (ht rfl)) (by kernel_rfl) (by kernel_rfl) e20 rfl fun v12 => ?_
    refine ja ?_
    refine Qd <| rt <| jm ?_
    refine ja ?_
    refine Qd <| Qp <| Qaf [2, 12, 81, 82] .here (Za (.of_lk rfl) <| Za (.of_lk rfl) <| Za (.of_lk rfl) <| Za (.of_lk rfl) <| U2) ?_
    obtain rfl := oi h
    exact Q0 v9 .k2 .h1
   ·replace h := bf e10 h
    obtain rfl := oi h
    exact Je v8 .k2 .h1
  ·rintro v13
   show Run _ _ _ [(2, (sl Qb).slot y11), (7, ov v13)] [own 31 (sl u8) v13 y12]
   refine Q7 (Γ' := [(7, ov v13)]) (H' := [own 31 (sl u8) v13 y12]) .k1 .h1 ?_
   refine rs <| rt <| jm ?_
   refine ja ?_
   refine Qd ?_
   obtain rfl := oi h
   exact Qj fun a w hst => QE hst rfl (.tmp rfl) v13 (fun _ _ h => h) .h1
theorem B8 {G : GP} {p_t : ZQ} {p_m : Int} {p_n : Int} {p_between : List Qa} {r : (List (List (BitVec 8)))} (h : YS p_t p_m p_n p_between = some r) : Ctr Tryz.prog G 27 [Jf.slot p_t, i64.slot p_m, i64.slot p_n, (sl Qb).slot p_between] [] (fun (u0 : Value) => ov u0) (fun (u0 : Value) => [own 31 (sl u8) u0 r]) := by
 unfold YS at h
 refine Ql Tryz.func27 rfl 45 rfl rfl fun m0 w0 b0 => ?_
 show Run _ _ _ [(0, Jf.slot p_t), (1, i64.slot p_m), (2, i64.slot p_n), (3, (sl Qb).slot p_between)] _
 refine rs <| rt <| jq (QW (ht rfl)) ?_
 refine QC (T := 31) (sl u8) rfl fun v1 => ?_
 refine Qd <| rs <| rt <| QC (T := 3) i64 rfl fun v2 => ?_
 refine Qd <| rs <| rt <| QC (T := 23) Qb rfl fun v3 => ?_
 refine Qd <| rs <| rt <| jm ?_
 refine jm ?_
 obtain ⟨r1, e1, h⟩ := bs h
 refine jq (pc (hc Qe <| hc (ht rfl) <| Q1) (Ctr.froze (Vm e1))) ?_
 obtain ⟨e2, h⟩ := QD h
 refine Jg (T := 3) (E := 3) (ht rfl) (.next .here) (Jd (ht rfl)) (by kernel_rfl) (by kernel_rfl) e2 rfl fun v4 => ?_
 refine ja ?_
 refine Qd <| rs <| rt <| jm ?_
 refine jm ?_
 refine jm ?_
 refine jm ?_
 refine jq (QR (sz := 32) (ht rfl) (by kernel_rfl)) ?_
 refine jq (QS (ht rfl) (ht rfl)) ?_
 obtain ⟨r2, e3, h⟩ := bs h
 refine jq (pc tl2 (Ctr.froze (Vm e3))) ?_
 obtain ⟨e4, h⟩ := QD h
 refine Jg (T := 3) (E := 3) (ht rfl) .here (Jd (ht rfl)) (by kernel_rfl) (by kernel_rfl) e4 rfl fun v5 => ?_
 refine ja ?_
 refine Qd <| rs <| rt <| jm ?_
 refine jm ?_
 refine jm ?_
 refine jq (QR (sz := 32) (ht rfl) (by kernel_rfl)) ?_
 refine jq (QS (ht rfl) (ht rfl)) ?_
 refine jm ?_
 obtain ⟨r3, e5, h⟩ := bs h
 refine jq (pc tl2 (Ctr.froze (Vm e5))) ?_
 obtain ⟨e6, h⟩ := QD h
 refine Jg (T := 3) (E := 3) (ht rfl) .here (Jd (ht rfl)) (by kernel_rfl) (by kernel_rfl) e6 rfl fun v6 => ?_
 refine ja ?_
 refine Qd <| rs <| rt <| jm ?_
 refine jq (pft (ht rfl) .f) ?_
 refine jl ?_
 obtain ⟨e7, h⟩ := QD h
 refine Jg (T := 23) (E := 23) (ht rfl) (.next .here) (Jd (ht rfl)) (by kernel_rfl) (by kernel_rfl) e7 rfl fun v7 => ?_
 refine ja ?_
 refine Qd <| rs <| rt <| jm ?_
 refine jm ?_
 obtain ⟨e8, h⟩ := QD h
 refine Jg (T := 23) (E := 23) (ht rfl) .here (Jd (ht rfl)) (by kernel_rfl) (by kernel_rfl) e8 rfl fun v8 => ?_
 refine ja ?_
 refine Qd <| rs <| rt <| jm ?_
 refine jq (pft (ht rfl) .s) ?_
 refine jl ?_
 obtain ⟨e9, h⟩ := QD h
 refine Jg (T := 23) (E := 23) (ht rfl) .here (Jd (ht rfl)) (by kernel_rfl) (by kernel_rfl) e9 rfl fun v9 => ?_
 refine ja ?_
 refine Qd <| rs <| rt <| jm ?_
 refine jm ?_
 refine B6 [9, 30, 42] (.next .here) (Za (.of_lk rfl) <| Za (.of_lk rfl) <| Za (.of_lk rfl) <| U2) ?_
 refine B6 [10, 41, 43] .here (Za (.of_lk rfl) <| Za (.of_lk rfl) <| Za (.of_lk rfl) <| U2) ?_
 obtain ⟨r6, e12, h⟩ := bs h
 refine jc (hc Qe <| hc (ht rfl) <| hc (ht rfl) <| Q1) (BN e12) .nil fun v12 => ?_
 refine ja ?_
 refine Qd ?_
 obtain rfl := oi h
 exact Qj fun a w hst => QE hst rfl (.tmp rfl) v12 (fun _ _ h => h) .h1
theorem BP {G : GP} {rc : (List Qa) → Option (List (List (BitVec 8)))} (hrc : ∀ {p_l : List Qa} {r : (List (List (BitVec 8)))}, rc p_l = some r → Ctr Tryz.prog G 28 [(sl Qb).slot p_l] [] (fun (u0 : Value) => ov u0) (fun (u0 : Value) => [own 31 (sl u8) u0 r])) {p_l : List Qa} {r : (List (List (BitVec 8)))} (h : Xg rc p_l = some r) : Ctr Tryz.prog G 28 [(sl Qb).slot p_l] [] (fun (u0 : Value) => ov u0) (fun (u0 : Value) => [own 31 (sl u8) u0 r]) := by
 unfold Xg at h
 refine Ql Tryz.func28 rfl 38 rfl rfl fun m0 w0 b0 => ?_
 show Run _ _ _ [(0, (sl Qb).slot p_l)] _
 refine rs <| rt <| QC (T := 31) (sl u8) rfl fun v1 => ?_
 refine Qd <| rs <| rs <| rt <| jm ?_
 refine jq (QR (sz := 32) (ht rfl) (by kernel_rfl)) ?_
 refine jq (Q5 (ht rfl) Qe) ?_
 refine Qd <| Qm (ht rfl) (fun e1 => ?_) (fun e1 => ?_)
 ·replace h := bt e1 h
  refine rs <| rt <| QC (T := 31) (sl u8) rfl fun v2 => ?_
  refine Qd ?_
  obtain rfl := oi h
  exact Qj fun a w hst => QE hst rfl (.tmp rfl) v2 (fun _ _ h => h) .h1
 ·replace h := bf e1 h
  refine Qk <| rs <| rt <| jq (pa Qe) ?_
  refine Qd <| rs ?_
  obtain ⟨y2, e3, h⟩ := bs h
  refine Q2 (Γi := fun (i : Unit) (s : Int) => [(0, (sl Qb).slot p_l), (3, i64.slot s)]) (Hi := fun (i : Unit) (s : Int) => []) e3 () (fun a w hst => (hst.sub .k2).keep (.nil)) ?_ ?_
  ·clear h e3
   rintro _ y1 lr h
   change XR p_l y1 = some _ at h
   show Run _ _ _ [(0, (sl Qb).slot p_l), (3, i64.slot y1)] []
   unfold XR at h
   refine rs <| rs <| rt <| jm ?_
   refine jm ?_
   refine jq (QR (sz := 32) (ht rfl) (by kernel_rfl)) ?_
   refine jm ?_
   refine jq (JF (ht rfl) (ht rfl)) ?_
   refine jq (Q5 (ht rfl) (ht rfl)) ?_
   refine Qd <| Qm (ht rfl) (fun e2 => ?_) (fun e2 => ?_)
   ·replace h := bt e2 h
    refine Qk <| QH <| rt <| jm ?_
    refine jq (Y7 Qe (ht rfl)) ?_
    refine ja ?_
    refine Qd <| Qp ?_
    obtain rfl := oi h
    exact Q0 () .k2 (.nil)
   ·replace h := bf e2 h
    obtain rfl := oi h
    exact Je () .k2 (.nil)
  ·rintro _
   show Run _ _ _ [(0, (sl Qb).slot p_l), (3, i64.slot y2)] []
   refine Q7 (Γ' := [(0, (sl Qb).slot p_l), (3, i64.slot y2)]) (H' := []) .k2 (.nil) ?_
   refine rs <| rt <| jm ?_
   refine jm ?_
   obtain ⟨x1, e4, h⟩ := bs h
   refine jq (JN (ht rfl) .no (.yes (ht rfl) Qg) e4 (by kernel_rfl)) ?_
   obtain ⟨r1, e5, h⟩ := bs h
   refine jc tl1 (hrc e5) .nil fun v3 => ?_
   refine ja ?_
   refine Qd <| rs <| rt <| jm ?_
   refine jm ?_
   refine jm ?_
   obtain ⟨x2, e6, h⟩ := bs h
   refine jq (JN (ht rfl) (.yes (ht rfl) Qg) .no e6 (by kernel_rfl)) ?_
   obtain ⟨r2, e7, h⟩ := bs h
   refine jq (pc tl1 (Ctr.froze (hrc e7))) ?_
   obtain ⟨e8, h⟩ := QD h
   refine Jg (T := 31) (E := 31) (ht rfl) .here (Jd (ht rfl)) (by kernel_rfl) (by kernel_rfl) e8 rfl fun v4 => ?_
   refine ja ?_
   refine Qd <| rs ?_
   obtain ⟨x3, e9, h⟩ := bs h
   obtain ⟨r3, e10, h⟩ := bs h
   obtain ⟨x4, e11, h⟩ := bs h
   obtain ⟨r4, e12, h⟩ := bs h
   obtain ⟨r5, e13, h⟩ := bs h
   refine rd (n := 11) (.m rfl <| .m rfl <| .m rfl <| .p (JN (ht rfl) .no (.yes (ht rfl) Qg) e9 (by kernel_rfl)) <| .p (pc tl1 (Xl e10)) <| .m rfl <| .m rfl <| .p (JN (ht rfl) (.yes (ht rfl) Qg) .no e11 (by kernel_rfl)) <| .p (pc tl1 (Xl e12)) <| .p (pc tl2 (Ctr.froze (Vc e13))) <| .p (QO (T := 31) (R := (sl u8)) (.cons (ht rfl) .nil) rfl (by kernel_rfl) (by kernel_rfl)) <| .nil) (Ja (Γ' := [(26, ov v4), (36, (sl (sl u8)).slot ([r5]))]) (H' := [own 31 (sl u8) v4 (r1 ++ r2)]) .k2 .h1 ?_)
   obtain ⟨e14, h⟩ := QD h
   refine Jg (T := 31) (E := 31) (ht rfl) .here (Jd (ht rfl)) (by kernel_rfl) (by kernel_rfl) e14 rfl fun v5 => ?_
   refine ja ?_
   refine Qd ?_
   obtain rfl := oi h
   exact Qj fun a w hst => QE hst rfl (.tmp rfl) v5 (fun _ _ h => h) .h1
theorem BS {G : GP} : ∀ (n : Nat) {p_l : List Qa} {r : (List (List (BitVec 8)))}, Xj n p_l = some r → Ctr Tryz.prog G 28 [(sl Qb).slot p_l] [] (fun (u0 : Value) => ov u0) (fun (u0 : Value) => [own 31 (sl u8) u0 r]) := by
 intro n
 induction n with
 | zero => intro p_l r h; cases h
 | succ n ih => intro p_l r h; exact BP (fun h => ih h) h
theorem qR {G : GP} {p_l : List Qa} {r : (List (List (BitVec 8)))} (h : VV p_l = some r) : Ctr Tryz.prog G 28 [(sl Qb).slot p_l] [] (fun (u0 : Value) => ov u0) (fun (u0 : Value) => [own 31 (sl u8) u0 r]) := BS FU h
theorem Wx {G : GP} (hg0 : HG0 G) (hg1 : HG1 G) (hg2 : HG2 G) (hg3 : HG3 G) (hg4 : HG4 G) {p_h : Zf} {p_n : BitVec 8} {p_t : ZQ} {r : Bool} (h : Yh p_h p_n p_t = some r) : Ctr Tryz.prog G 4 [QV.slot p_h, u8.slot p_n, Jf.slot p_t] [] (fun (_ : Unit) => bl.slot r) (fun (_ : Unit) => []) := by
 unfold Yh at h
 refine Ql Tryz.func4 rfl 107 rfl rfl fun m0 w0 b0 => ?_
 show Run _ _ _ [(0, QV.slot p_h), (1, u8.slot p_n), (2, Jf.slot p_t)] _
 refine rs <| rt <| jq (QW (ht rfl)) ?_
 refine jq (QW (ht rfl)) ?_
 refine jq (pa QQ) ?_
 refine Qd <| rs <| rt <| jm ?_
 refine jq (Qco (k := .u8) (b := 8) (ht rfl) (Qy (x := 20#8) rfl) (by decide)) ?_
 refine jq (YV (by decide) (by kernel_rfl) (ht rfl)) ?_
 refine jq (QS Qe (ht rfl)) ?_
 obtain ⟨x1, e1, h⟩ := bs h
 refine jq (PJ.eqv (pa (ht rfl)) (oi e1)) ?_
 refine Qd <| rs <| rs <| rt ?_
 obtain ⟨r1, e2, h⟩ := bs h
 refine jq (pc (Q1) (UI hg0 hg1 hg2 e2)) ?_
 refine jq (ZG (ht rfl)) ?_
 refine jm ?_
 obtain ⟨y1, e4, h⟩ := bs h
 refine Ju (ι := Unit) (Γ' := fun _ => [(3, Qo QV p_h), (5, Qo Jf p_t), (7, i64.slot x1), (22, bl.slot y1)]) (H' := fun _ => []) 5 ?_ fun J => ?_
 ·intro _
  clear e4
  show Jc _ _ _ [(3, Qo QV p_h), (5, Qo Jf p_t), (7, i64.slot x1), (22, bl.slot y1)] [] _
  refine jm ?_
  obtain ⟨y2, e6, h⟩ := bs h
  refine Ju (ι := Unit) (Γ' := fun _ => [(3, Qo QV p_h), (5, Qo Jf p_t), (7, i64.slot x1), (28, bl.slot y2)]) (H' := fun _ => []) 5 ?_ fun J => ?_
  ·intro _
   clear e6
   show Jc _ _ _ [(3, Qo QV p_h), (5, Qo Jf p_t), (7, i64.slot x1), (28, bl.slot y2)] [] _
   refine jm ?_
   obtain ⟨y3, e8, h⟩ := bs h
   refine Ju (ι := Unit) (Γ' := fun _ => [(3, Qo QV p_h), (5, Qo Jf p_t), (7, i64.slot x1), (33, bl.slot y3)]) (H' := fun _ => []) 4 ?_ fun J => ?_
   ·intro _
    clear e8
    show Jc _ _ _ [(3, Qo QV p_h), (5, Qo Jf p_t), (7, i64.slot x1), (33, bl.slot y3)] [] _
    refine jm ?_
    obtain ⟨y4, e10, h⟩ := bs h
    refine Ju (ι := Unit) (Γ' := fun _ => [(3, Qo QV p_h), (5, Qo Jf p_t), (7, i64.slot x1), (39, bl.slot y4)]) (H' := fun _ => []) 5 ?_ fun J => ?_
    ·intro _
     clear e10
     show Jc _ _ _ [(3, Qo QV p_h), (5, Qo Jf p_t), (7, i64.slot x1), (39, bl.slot y4)] [] _
     refine jm ?_
     obtain ⟨y5, e12, h⟩ := bs h
     refine Ju (ι := Unit) (Γ' := fun _ => [(3, Qo QV p_h), (5, Qo Jf p_t), (7, i64.slot x1), (44, bl.slot y5)]) (H' := fun _ => []) 4 ?_ fun J => ?_
     ·intro _
      clear e12
      show Jc _ _ _ [(3, Qo QV p_h), (5, Qo Jf p_t), (7, i64.slot x1), (44, bl.slot y5)] [] _
      refine Qd <| Qm (ht rfl) (fun e14 => ?_) (fun e14 => ?_)
      ·replace h := bt e14 h
       refine rs <| rt ?_
       obtain ⟨r3, e15, h⟩ := bs h
       refine jq (pc (Q1) (UI hg0 hg1 hg2 e15)) ?_
       refine ja ?_
       refine Qd ?_
       obtain rfl := oi h
       exact Qj fun a w hst => QE hst rfl (.tmp rfl) () (fun _ _ h => h) (.nil)
      ·replace h := bf e14 h
       refine Qk <| rs <| rt ?_
       obtain ⟨r4, e16, h⟩ := bs h
       refine jc (Q1) (Uf hg0 hg1 hg2 e16) .nil fun b1 => ?_
       refine ja ?_
       refine Qd <| rs <| rt <| jm ?_
       obtain ⟨r5, e17, h⟩ := bs h
       refine jq (VF tl1 .here (by kernel_rfl) (Ctr.frozeR (fun _ => (UZ e17)))) ?_
       obtain ⟨r6, e18, h⟩ := bs h
       refine jc tl1 (QaJ e18) .nil fun ⟨b2, v1, v2, v3⟩ => ?_
       refine ja ?_
       refine Qd <| rs <| rt <| jm ?_
       obtain ⟨r7, e19, h⟩ := bs h
       refine jq (pc tl1 (Ctr.froze (Bq e19))) ?_
       refine ja ?_
       refine Qd <| rs <| rs <| rt <| jm ?_
       refine jm ?_
       refine jl ?_
       obtain ⟨r8, e20, h⟩ := bs h
       refine jc tl2 (VR hg0 hg1 hg2 e20) (.cons (.next (.next (.next (.next .here)))) <| .nil) fun _ => ?_
       obtain ⟨r9, e21, h⟩ := bs h
       refine jc tl2 (Ub hg0 hg1 hg2 e21) (.cons (.next .here) <| .cons (.next .here) <| .cons (.next .here) <| .cons (.next .here) <| .nil) fun ⟨v4, v5, v6⟩ => ?_
       refine jq (Yt (ht rfl) Qe) ?_
       refine jm ?_
       rcases Jj (!decide (r9.2 = (0 : Int))) with e22 | e22
       ·replace h := bt e22 h
        refine jN e22 ?_
        refine jN e22 ?_
        refine jN e22 ?_
        refine jN e22 ?_
        refine jN e22 ?_
        refine jN e22 ?_
        refine jN e22 ?_
        refine jN e22 ?_
        refine jN e22 ?_
        refine jq (qI (t := any) (ht rfl) (fun _ => QQ) (fun he => absurd (e22.symm.trans he) (by decide))) ?_
        refine Qd <| Qdz (ht rfl) rfl ?_
        refine rs <| rt <| jq (pa QQ) ?_
        refine Qd ?_
        obtain rfl := oi h
        exact Qj fun a w hst => QE hst rfl (.tmp rfl) () (fun _ _ h => h) (.nil)
       ·replace h := bf e22 h
        refine jz (pm (ht rfl)) e22 ?_
        refine jz (pm (ht rfl)) e22 ?_
        refine jz (pm (ht rfl)) e22 ?_
        refine jz (pm (ht rfl)) e22 ?_
        obtain ⟨r10, e23, h⟩ := bs h
        refine jz (pc tl1 (Xl e23)) e22 ?_
        obtain ⟨x2, e24, h⟩ := bs h
        refine jz (PJ.eqv (J9 (R := QV) (Qn QG (Qn QG (Qn (QA 32 QK) (QA 32 QK)))) (by kernel_rfl) (by kernel_rfl) rfl (.cons (ht rfl) .f (by kernel_rfl) (.cons Qe (.t .s .f) (by kernel_rfl) (.cons (ht rfl) (.t .s (.t .s .s)) (by kernel_rfl) .nil)))) (oi e24)) e22 ?_
        obtain ⟨r11, e25, h⟩ := bs h
        refine WM rfl rfl rfl rfl (Qbt e22) (jc tl2 (VR hg0 hg1 hg2 e25) (.cons (.next (.next (.next (.next .here)))) <| .nil) fun _ => ?_)
        obtain ⟨r12, e26, h⟩ := bs h
        refine WM rfl rfl rfl rfl (Qbt e22) (jc tl2 (Ub hg0 hg1 hg2 e26) (.cons (.next .here) <| .cons (.next .here) <| .cons (.next .here) <| .cons (.next .here) <| .nil) fun ⟨v7, v8, v9⟩ => ?_)
        refine jz (Yt (ht rfl) Qe) e22 ?_
        refine jq (qI (t := any) (ht rfl) (fun he => absurd (e22.symm.trans he) (by decide)) (fun _ => (ht rfl))) ?_
        refine Qd <| Qm (ht rfl) (fun e27 => ?_) (fun e27 => ?_)
        ·replace h := bt e27 h
         refine rs <| rt <| jq (pa QQ) ?_
         refine Qd ?_
         obtain rfl := oi h
         exact Qj fun a w hst => QE hst rfl (.tmp rfl) () (fun _ _ h => h) (.nil)
        ·replace h := bf e27 h
         refine Qk <| rs <| rs <| rt <| jm ?_
         refine jq (pft (ht rfl) .f) ?_
         refine jl ?_
         refine jm ?_
         refine jl ?_
         obtain ⟨r13, e28, h⟩ := bs h
         refine jc tl4 (Qao hg1 hg2 hg3 hg4 e28) .h4 fun ⟨v10, v11, v12⟩ => ?_
         refine jq (Yt (ht rfl) Qe) ?_
         refine Qd <| Qm (ht rfl) (fun e29 => ?_) (fun e29 => ?_)
         ·replace h := bt e29 h
          refine rs <| rt <| jm ?_
          refine jq (pft (ht rfl) .f) ?_
          refine jl ?_
          refine jm ?_
          obtain ⟨r14, e30, h⟩ := bs h
          refine jq (Z4 (QX (K0 (ht rfl) .here (Zl (.next .here) (Jx (sl u8) r13.1.1 (VQ (prod (exv v11) (exv v12)) ((), ()) X1)) <| Zl (.next (.next .here)) (Jx (sl u8) r13.1.1 (Jx (sl Qh) r13.1.2.1 (VQ (exv v12) () X1))) <| Zl (.next (.next (.next .here))) (Jx (sl u8) r13.1.1 (Jx (sl Qh) r13.1.2.1 (Jx (sl Qv) r13.1.2.2.1 X1))) <| KW)) <| QX (ZY (ht rfl)) <| QX (ZY (ht rfl)) <| J8) (by kernel_rfl) (Y6 e30) (Rep.flat_slot Ux _)) ?_
          refine jq (ZG (ht rfl)) ?_
          refine ja ?_
          refine Qd ?_
          obtain rfl := oi h
          exact Qj fun a w hst => QE hst rfl (.tmp rfl) () (fun _ _ h => h) (.nil)
         ·replace h := bf e29 h
          refine Qk <| rs ?_
          obtain ⟨r15, e31, h⟩ := bs h
          obtain ⟨y6, e33, h⟩ := bs h
          refine (We (n := 25) (Γ' := [(106, bl.slot y6)]) (H' := []) ?_ fun J => ?_)
          ·clear e33
           refine ja ?_
           refine Qd ?_
           obtain rfl := oi h
           exact Qj fun a w hst => QE hst rfl (.tmp rfl) () (fun _ _ h => h) (.nil)
          ·rcases Jj (r15) with e32 | e32
           ·replace e33 := bt e32 e33
            obtain ⟨x3, e34, e33⟩ := bind_some e33
            obtain ⟨r16, e35, e33⟩ := bind_some e33
            obtain ⟨y7, e37, e33⟩ := bind_some e33
            rcases Jj (decide (p_h.2.2.2 = r16)) with e36 | e36
            ·replace e37 := bt e36 e37
             exact rd (n := 25) (.m rfl <| .p (pft (ht rfl) .f) <| .p (plt (ht rfl)) <| .m rfl <| .p (Z4 (QX (K0 (ht rfl) .here (Zl (.next .here) (Jx (sl u8) r13.1.1 (VQ (prod (exv v11) (exv v12)) ((), ()) X1)) <| Zl (.next (.next .here)) (Jx (sl u8) r13.1.1 (Jx (sl Qh) r13.1.2.1 (VQ (exv v12) () X1))) <| Zl (.next (.next (.next .here))) (Jx (sl u8) r13.1.1 (Jx (sl Qh) r13.1.2.1 (Jx (sl Qv) r13.1.2.2.1 X1))) <| KW)) <| QX (ZY (ht rfl)) <| QX (ZY (ht rfl)) <| J8) (by kernel_rfl) (Y6 e31) (Rep.flat_slot Ux _)) <| .m rfl <| .read (.yes (gY e32) (pft (ht rfl) (.t .s (.t .s .s)))) <| .read (.yes (gY e32) (plt (ht rfl))) <| .read (.yes (gY e32) (pm (ht rfl))) <| .read (.yes (gY e32) (pft (ht rfl) .f)) <| .read (.yes (gY e32) (plt (ht rfl))) <| .read (.yes (gY e32) (JN (ht rfl) .no (.yes (ht rfl) Qg) e34 (by kernel_rfl))) <| .read (.yes (gY e32) (pc tl1 (Xl e35))) <| .read (.yes (gY e32) (Qbw (n := 2) (Qbx (e := 5) (by kernel_rfl) (by kernel_rfl) (Qd0 (by kernel_rfl))) (by decide) rfl (by kernel_rfl) (ht rfl) (ht rfl))) <| .read (.yes (gY e32) (pm (ht rfl))) <| .read (.no (gM e36)) <| .read (.no (gM e36)) <| .read (.no (gM e36)) <| .read (.no (gM e36)) <| .read (.no (gM e36)) <| .read (.no (gM e36)) <| .read (.no (gM e36)) <| .read (.no (gM e36)) <| .read (.yes (gY e32) (pk1 e36 QQ (oi e37))) <| .p (pk1 e32 (ht rfl) (oi e33)) <| .nil) (Ja (Γ' := [(106, bl.slot y6)]) (H' := []) .k1 (.nil) J)
            ·replace e37 := bf e36 e37
             obtain ⟨r17, e38, e37⟩ := bind_some e37
             obtain ⟨r18, e39, e37⟩ := bind_some e37
             obtain ⟨r19, e40, e37⟩ := bind_some e37
             exact rd (n := 25) (.m rfl <| .p (pft (ht rfl) .f) <| .p (plt (ht rfl)) <| .m rfl <| .p (Z4 (QX (K0 (ht rfl) .here (Zl (.next .here) (Jx (sl u8) r13.1.1 (VQ (prod (exv v11) (exv v12)) ((), ()) X1)) <| Zl (.next (.next .here)) (Jx (sl u8) r13.1.1 (Jx (sl Qh) r13.1.2.1 (VQ (exv v12) () X1))) <| Zl (.next (.next (.next .here))) (Jx (sl u8) r13.1.1 (Jx (sl Qh) r13.1.2.1 (Jx (sl Qv) r13.1.2.2.1 X1))) <| KW)) <| QX (ZY (ht rfl)) <| QX (ZY (ht rfl)) <| J8) (by kernel_rfl) (Y6 e31) (Rep.flat_slot Ux _)) <| .m rfl <| .read (.yes (gY e32) (pft (ht rfl) (.t .s (.t .s .s)))) <| .read (.yes (gY e32) (plt (ht rfl))) <| .read (.yes (gY e32) (pm (ht rfl))) <| .read (.yes (gY e32) (pft (ht rfl) .f)) <| .read (.yes (gY e32) (plt (ht rfl))) <| .read (.yes (gY e32) (JN (ht rfl) .no (.yes (ht rfl) Qg) e34 (by kernel_rfl))) <| .read (.yes (gY e32) (pc tl1 (Xl e35))) <| .read (.yes (gY e32) (Qbw (n := 2) (Qbx (e := 5) (by kernel_rfl) (by kernel_rfl) (Qd0 (by kernel_rfl))) (by decide) rfl (by kernel_rfl) (ht rfl) (ht rfl))) <| .read (.yes (gY e32) (pm (ht rfl))) <| .read (.yes (gY e36) (plt (ht rfl))) <| .read (.yes (gY e36) (pft (ht rfl) .f)) <| .read (.yes (gY e36) (plt (ht rfl))) <| .read (.yes (gY e36) (pm (ht rfl))) <| .read (.yes (gY e36) (pc (hc (ht rfl) <| hc (ht rfl) <| hc (ht rfl) <| hc (WG (R := Qb)) <| Q1) (Ctr.froze (B8 e38)))) <| .read (.yes (gY e36) (pm (ht rfl))) <| .read (.yes (gY e36) (pc tl1 (Ctr.froze (qR e39)))) <| .read (.yes (gY e36) (pc tl2 (BU e40))) <| .read (.yes (gY e32) (pk2 e36 (ht rfl) (oi e37))) <| .p (pk1 e32 (ht rfl) (oi e33)) <| .nil) (Ja (Γ' := [(106, bl.slot y6)]) (H' := []) .k1 (.nil) J)
           ·replace e33 := bf e32 e33
            exact rd (n := 25) (.m rfl <| .p (pft (ht rfl) .f) <| .p (plt (ht rfl)) <| .m rfl <| .p (Z4 (QX (K0 (ht rfl) .here (Zl (.next .here) (Jx (sl u8) r13.1.1 (VQ (prod (exv v11) (exv v12)) ((), ()) X1)) <| Zl (.next (.next .here)) (Jx (sl u8) r13.1.1 (Jx (sl Qh) r13.1.2.1 (VQ (exv v12) () X1))) <| Zl (.next (.next (.next .here))) (Jx (sl u8) r13.1.1 (Jx (sl Qh) r13.1.2.1 (Jx (sl Qv) r13.1.2.2.1 X1))) <| KW)) <| QX (ZY (ht rfl)) <| QX (ZY (ht rfl)) <| J8) (by kernel_rfl) (Y6 e31) (Rep.flat_slot Ux _)) <| .m rfl <| .read (.no (gN e32)) <| .read (.no (gN e32)) <| .read (.no (gN e32)) <| .read (.no (gN e32)) <| .read (.no (gN e32)) <| .read (.no (gN e32)) <| .read (.no (gN e32)) <| .read (.no (gN e32)) <| .read (.no (gN e32)) <| .read (.undef ⟨14, false, 96, rfl, rfl, rfl⟩) <| .read (.undef ⟨14, false, 96, rfl, rfl, rfl⟩) <| .read (.undef ⟨14, false, 96, rfl, rfl, rfl⟩) <| .read (.undef ⟨14, false, 96, rfl, rfl, rfl⟩) <| .read (.undef ⟨14, false, 96, rfl, rfl, rfl⟩) <| .read (.undef ⟨14, false, 96, rfl, rfl, rfl⟩) <| .read (.undef ⟨14, false, 96, rfl, rfl, rfl⟩) <| .read (.undef ⟨14, false, 96, rfl, rfl, rfl⟩) <| .read (.no (gN e32)) <| .p (pk2 e32 QQ (oi e33)) <| .nil) (Ja (Γ' := [(106, bl.slot y6)]) (H' := []) .k1 (.nil) J)
     ·rcases Jj (y4) with e11 | e11
      ·replace e12 := bt e11 e12
       refine jN e11 ?_
       refine jN e11 ?_
       refine jN e11 ?_
       refine jq (pk1 e11 QQ (oi e12)) ?_
       exact Ja .k4 (.nil) (J ())
      ·replace e12 := bf e11 e12
       refine jz (plt (ht rfl)) e11 ?_
       obtain ⟨r2, e13, e12⟩ := bind_some e12
       refine jz (pc tl1 (QaX e13)) e11 ?_
       refine jz (ZG (ht rfl)) e11 ?_
       refine jq (pk2 e11 (ht rfl) (oi e12)) ?_
       exact Ja .k4 (.nil) (J ())
    ·rcases Jj (y3) with e9 | e9
     ·replace e10 := bt e9 e10
      refine jN e9 ?_
      refine jN e9 ?_
      refine jN e9 ?_
      refine jN e9 ?_
      refine jq (pk1 e9 QQ (oi e10)) ?_
      exact Ja .k4 (.nil) (J ())
     ·replace e10 := bf e9 e10
      refine jz (pft (ht rfl) .f) e9 ?_
      refine jz (plt (ht rfl)) e9 ?_
      refine jz (pm (ht rfl)) e9 ?_
      refine jz (Y1 (ht rfl) (ht rfl)) e9 ?_
      refine jq (pk2 e9 (ht rfl) (oi e10)) ?_
      exact Ja .k4 (.nil) (J ())
   ·rcases Jj (y2) with e7 | e7
    ·replace e8 := bt e7 e8
     refine jN e7 ?_
     refine jN e7 ?_
     refine jN e7 ?_
     refine jq (pk1 e7 QQ (oi e8)) ?_
     exact Ja .k4 (.nil) (J ())
    ·replace e8 := bf e7 e8
     refine jz (pft (ht rfl) .f) e7 ?_
     refine jz (plt (ht rfl)) e7 ?_
     refine jz (Q5 (ht rfl) Qe) e7 ?_
     refine jq (pk2 e7 (ht rfl) (oi e8)) ?_
     exact Ja .k4 (.nil) (J ())
  ·rcases Jj (y1) with e5 | e5
   ·replace e6 := bt e5 e6
    refine jN e5 ?_
    refine jN e5 ?_
    refine jN e5 ?_
    refine jN e5 ?_
    refine jq (pk1 e5 QQ (oi e6)) ?_
    exact Ja .k4 (.nil) (J ())
   ·replace e6 := bf e5 e6
    refine jz (pft (ht rfl) .s) e5 ?_
    refine jz (plt (ht rfl)) e5 ?_
    refine jz (QR (sz := 32) (ht rfl) (by kernel_rfl)) e5 ?_
    refine jz (Vd (ht rfl) Qe) e5 ?_
    refine jq (pk2 e5 (ht rfl) (oi e6)) ?_
    exact Ja .k4 (.nil) (J ())
 ·rcases Jj (!r1) with e3 | e3
  ·replace e4 := bt e3 e4
   refine jN e3 ?_
   refine jN e3 ?_
   refine jN e3 ?_
   refine jN e3 ?_
   refine jq (pk1 e3 QQ (oi e4)) ?_
   exact Ja .k4 (.nil) (J ())
  ·replace e4 := bf e3 e4
   refine jz (pft (ht rfl) .f) e3 ?_
   refine jz (plt (ht rfl)) e3 ?_
   refine jz (QR (sz := 32) (ht rfl) (by kernel_rfl)) e3 ?_
   refine jz (Vd (ht rfl) Qe) e3 ?_
   refine jq (pk2 e3 (ht rfl) (oi e4)) ?_
   exact Ja .k4 (.nil) (J ())
end Go.Sl.W
