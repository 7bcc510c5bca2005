import Derived.Test.YtheldkljmefbaaaGreatDoorG5
import Derived.Test.YtheldkljmefbaaaGreatDoorG4
import Derived.Test.YtheldkljmefbaaaGreatDoorProg
set_option linter.unusedSimpArgs false
set_option linter.unusedVariables false
set_option linter.unusedSectionVars false
namespace Go.Sl.W
open Go.Proofs Go.Sl Go.Sl.M
set_option maxHeartbeats 4000000
set_option maxRecDepth 100000
theorem Vq {G : GP} {p_r : (List (BitVec 8)) × Bool} {b_r : Nat} {c_r : List Value} {r : Bool} (h : Vk p_r = some r) : Ctr Tryz.prog G 170 [val (.pointer (some ⟨b_r, 0, none⟩))] [box b_r 208 (exr (prod (sl u8) bl) c_r) (p_r.1, p_r.2)] (fun (_ : Unit) => bl.slot r) (fun (_ : Unit) => [box b_r 208 (exr (prod (sl u8) bl) c_r) (p_r.1, p_r.2)]) := by
 unfold Vk at h
 refine Ql Tryz.func170 rfl 11 rfl rfl fun m0 w0 b0 => ?_
 show Run _ _ _ [(0, val (.pointer (some ⟨b_r, 0, none⟩)))] _
 refine rs <| rt <| jq (PJ.xw (.ex .refl) (pa QQ)) ?_
 refine Qd <| rs <| rt <| jq (PJ.xw (.ex .refl) (pm (ht rfl))) ?_
 obtain ⟨r1, e1, h⟩ := bs h
 refine jq (PJ.xw (.ex .refl) (VF tl1 .here (by kernel_rfl) (fun _ => (UX e1)))) ?_
 refine jq (PJ.xw (.ex .refl) (ZG (ht rfl))) ?_
 refine jq (PJ.xw (.ex .refl) (pm (ht rfl))) ?_
 obtain ⟨y1, e3, h⟩ := bs h
 refine Ju (ι := Unit) (Γ' := fun _ => [(10, bl.slot y1)]) (H' := fun _ => [box b_r 208 (exr (prod (sl u8) bl) c_r) (p_r.1, p_r.2)]) 4 ?_ fun J => ?_
 ·intro _
  clear e3
  show Jc _ _ _ [(10, bl.slot y1)] [box b_r 208 (exr (prod (sl u8) bl) c_r) (p_r.1, p_r.2)] _
  refine jq (PJ.xw (.ex .refl) (pa (ht rfl))) ?_
  refine Qd ?_
  obtain rfl := oi h
  exact Qj fun a w hst => QE hst rfl (.tmp rfl) () (fun _ _ h => h) .h1
 ·rcases Jj (!r1) with e2 | e2
  ·replace e3 := bt e2 e3
   refine jz (PJ.xw (.ex .refl) (pm (ht rfl))) e2 ?_
   obtain ⟨r2, e4, e3⟩ := bind_some e3
   refine jz (PJ.xw (.ex .refl) (VF tl1 .here (by kernel_rfl) (fun _ => (Wp e4)))) e2 ?_
   refine jz (PJ.xw (.ex .refl) (ZL (ht rfl) Qe)) e2 ?_
   refine jq (pk1 e2 (ht rfl) (oi e3)) ?_
   exact Ja .k1 .h1 (J ())
  ·replace e3 := bf e2 e3
   refine jn e2 ?_
   refine jn e2 ?_
   refine jn e2 ?_
   refine jq (pk2 e2 QQ (oi e3)) ?_
   exact Ja .k1 .h1 (J ())
theorem QeL {G : GP} (hg0 : HG0 G) {p_b : List (BitVec 8)} {p_height : Int} {p_kind : Int} {r : US × Bool} (h : KI p_b p_height p_kind = some r) : Ctr Tryz.prog G 143 [(sl u8).slot p_b, i64.slot p_height, i64.slot p_kind] [] (fun (_ : Unit) => tup [QY.slot r.1, bl.slot r.2]) (fun (_ : Unit) => []) := by
 unfold KI at h
 refine Ql Tryz.func143 rfl 68 rfl rfl fun m0 w0 b0 => ?_
 show Run _ _ _ [(0, (sl u8).slot p_b), (1, i64.slot p_height), (2, i64.slot p_kind)] _
 refine rs <| rt <| al (x := (0, ([] : List (BitVec 8)), ([] : List Qa))) (R := QY) (Qn QG (Qn J7 J7)) fun b1 => ?_
 refine jq (pa QQ) ?_
 refine Qd <| rs <| rs <| rt <| jm ?_
 refine jq (QR (sz := 1) (ht rfl) (by kernel_rfl)) ?_
 refine jm ?_
 refine jm ?_
 obtain ⟨r1, e1, h⟩ := bs h
 refine jq (pc tl2 (Qag hg0 e1)) ?_
 refine jq (Yt (ht rfl) (ht rfl)) ?_
 refine Qd <| Qm (ht rfl) (fun e2 => ?_) (fun e2 => ?_)
 ·replace h := bt e2 h
  refine rs <| rt <| jq (J9 (R := QY) (Qn QG (Qn J7 J7)) (by kernel_rfl) (by kernel_rfl) rfl .nil) ?_
  obtain ⟨x1, e3, h⟩ := bs h
  refine Yl (r' := x1) (ht rfl) (ht rfl) .here .a (by kernel_rfl) (oi e3) ?_
  refine jq (pa QQ) ?_
  refine Qd ?_
  obtain rfl := oi h
  exact Qj fun a w hst => JX hst rfl (.cons (.cell rfl .here (by kernel_rfl)) <| .cons (.tmp rfl) <| .nil) rfl () (fun _ _ h => h) (.nil)
 ·replace h := bf e2 h
  refine Qk <| rs <| rt <| jm ?_
  obtain ⟨r2, e4, h⟩ := bs h
  refine jc tl1 (Um e4) .nil fun b2 => ?_
  refine ja ?_
  refine Qd <| rs <| rt <| jm ?_
  obtain ⟨r3, e5, h⟩ := bs h
  refine jc tl1 (Zn e5) .h1 fun _ => ?_
  refine jq (YV (by decide) (by kernel_rfl) (ht rfl)) ?_
  refine jm ?_
  refine jm ?_
  obtain ⟨r4, e6, h⟩ := bs h
  refine jq (pc tl1 (Bj hg0 e6)) ?_
  obtain ⟨r5, e7, h⟩ := bs h
  refine jc tl2 (Zd e7) .h1 fun _ => ?_
  refine Ui 23 Qb none (jq (Qbz (R := (prod i64 (prod (sl u8) (exv (.slice none 0 0))))) (x := (0, ([] : List (BitVec 8)), ())) (Qn QG (Qn J7 V0)) (by kernel_rfl) (by kernel_rfl) rfl (.cons (ht rfl) (Wj (x1 := ((r3.2.toNat : Int), ([] : List (BitVec 8)), ())) .f rfl) (by kernel_rfl) (.cons (ht rfl) (Wj (x1 := ((r3.2.toNat : Int), r5.2, ())) (.t .s .f) rfl) (by kernel_rfl) .nil))) ?_)
  refine al (x := (0, ([] : List (BitVec 8)), ())) (R := (prod i64 (prod (sl u8) (exv (.slice none 0 0))))) (Qn QG (Qn J7 V0)) fun b3 => ?_
  refine QfZ (ht rfl) (ht rfl) .here (by kernel_rfl) (by kernel_rfl) ?_
  refine Qd <| rs <| rt <| jm ?_
  obtain ⟨r6, e8, h⟩ := bs h
  refine jc tl1 (Zn e8) (.cons (.next (.next .here)) <| .nil) fun _ => ?_
  refine jq (YV (by decide) (by kernel_rfl) (ht rfl)) ?_
  refine ja ?_
  refine Qd <| rs <| rs <| rt <| jm ?_
  refine jq (pm Qe) ?_
  refine Qd ?_
  obtain ⟨⟨y5, y6, y7, y8⟩, e13, h⟩ := bs h
  refine Q2 (Γi := fun (i : Value) (s : Int × (List (BitVec 8)) × Bool × (List Qa)) => [(1, i64.slot p_height), (2, i64.slot p_kind), (6, val (.pointer (some ⟨b1, 0, none⟩))), (8, val (.pointer (some ⟨b2, 0, none⟩))), (9, val (.pointer (some ⟨b3, 0, none⟩))), (10, i64.slot (r6.2.toNat : Int)), (31, i64.slot p_height), (32, i64.slot s.1)]) (Hi := fun (i : Value) (s : Int × (List (BitVec 8)) × Bool × (List Qa)) => [box b2 208 (prod (sl u8) bl) (s.2.1, s.2.2.1), box b3 211 (prod i64 (prod (sl u8) (exv i))) ((r3.2.toNat : Int), r5.2, ()), own 23 Qb i s.2.2.2, box b1 211 QY (0, ([] : List (BitVec 8)), ([] : List Qa))]) e13 (.slice none 0 0) (fun a w hst => (hst.sub .k8).keep .h4) ?_ ?_
  ·clear h e13
   rintro v1 ⟨y1, y2, y3, y4⟩ lr h
   change X5 p_height y1 y2 y3 y4 = some _ at h
   show Run _ _ _ [(1, i64.slot p_height), (2, i64.slot p_kind), (6, val (.pointer (some ⟨b1, 0, none⟩))), (8, val (.pointer (some ⟨b2, 0, none⟩))), (9, val (.pointer (some ⟨b3, 0, none⟩))), (10, i64.slot (r6.2.toNat : Int)), (31, i64.slot p_height), (32, i64.slot y1)] [box b2 208 (prod (sl u8) bl) (y2, y3), box b3 211 (prod i64 (prod (sl u8) (exv v1))) ((r3.2.toNat : Int), r5.2, ()), own 23 Qb v1 y4, box b1 211 QY (0, ([] : List (BitVec 8)), ([] : List Qa))]
   unfold X5 at h
   refine rs <| rt <| jq (Q5 (ht rfl) (ht rfl)) ?_
   refine Qd <| rs <| Qm (ht rfl) (fun e9 => ?_) (fun e9 => ?_)
   ·replace h := bt e9 h
    refine Qk <| rs <| QH ?_
    obtain ⟨r7, e10, h⟩ := bs h
    obtain ⟨x2, e11, h⟩ := bs h
    refine XB (H' := [box b2 208 (prod (sl u8) bl) (y2, y3), box b3 211 (prod i64 (prod (sl u8) (exv v1))) ((r3.2.toNat : Int), r5.2, ()), own 23 Qb v1 y4, box b1 211 QY (0, ([] : List (BitVec 8)), ([] : List Qa))]) .h4 ?_
    refine rdL (n := 7) (H := [box b3 211 (prod i64 (prod (sl u8) (exv v1))) ((r3.2.toNat : Int), r5.2, ()), own 23 Qb v1 y4, box b1 211 QY (0, ([] : List (BitVec 8)), ([] : List Qa))]) (Ls := [⟨[box b2 208 (prod (sl u8) bl) (y2, y3)], [(3, ⟨Unit, fun (_ : Unit) => [box b2 208 (prod (sl u8) bl) (r7.1.1, r7.1.2)], fun (_ : Unit) => [(37, (sl u8).slot r7.2)]⟩)]⟩]) (.p (pfp (off := 2) (ht rfl)) <| .p (plb (ht rfl) .here (.t .a (.t .s .s))) <| .m rfl <| .step 0 rfl .here (.inl rfl) (fun i => ⟨_, _, fun _ => (), (wc (hc (ht rfl) <| hc Qe <| Q1) (Zd e10) .h1), fun _ => rfl, QdB, Bu⟩) <| .p (QaB (e := 5) (ht rfl) e11 rfl (by kernel_rfl)) <| .p (plt (ht rfl)) <| .p (QO (T := 23) (R := Qb) (.cons (ht rfl) .nil) rfl (by kernel_rfl) (by kernel_rfl)) <| .nil) ?_
    rintro _
    refine Ja (Γ' := [(1, i64.slot p_height), (2, i64.slot p_kind), (6, val (.pointer (some ⟨b1, 0, none⟩))), (8, val (.pointer (some ⟨b2, 0, none⟩))), (9, val (.pointer (some ⟨b3, 0, none⟩))), (10, i64.slot (r6.2.toNat : Int)), (31, i64.slot p_height), (32, i64.slot y1), (35, ov v1), (40, (sl Qb).slot ([x2]))]) (H' := [box b2 208 (prod (sl u8) bl) (r7.1.1, r7.1.2), box b3 211 (prod i64 (prod (sl u8) (exv v1))) ((r3.2.toNat : Int), r5.2, ()), own 23 Qb v1 y4, box b1 211 QY (0, ([] : List (BitVec 8)), ([] : List Qa))]) .k10 .h4 ?_
    obtain ⟨e12, h⟩ := QD h
    refine Jg (T := 23) (E := 23) (ht rfl) (.next (.next .here)) (Jd (ht rfl)) (by kernel_rfl) (by kernel_rfl) e12 rfl fun v2 => ?_
    refine jq (pfp (off := 2) (ht rfl)) ?_
    refine Bt ((r3.2.toNat : Int), r5.2, ()) (ht rfl) (ht rfl) (.next (.next .here)) (UN i64 (r3.2.toNat : Int) (UN (sl u8) r5.2 QaD)) (by kernel_rfl) ?_
    refine Qd <| Qp <| rt <| jq (QS (ht rfl) Qe) ?_
    refine jm ?_
    refine Qd ?_
    obtain rfl := oi h
    exact Q0 v2 .k8 (.cons (.next (.next .here)) <| .cons .here <| .cons .here <| .cons .here <| .nil)
   ·replace h := bf e9 h
    obtain rfl := oi h
    exact Je v1 .k8 .h4
  ·rintro v3
   show Run _ _ _ [(1, i64.slot p_height), (2, i64.slot p_kind), (6, val (.pointer (some ⟨b1, 0, none⟩))), (8, val (.pointer (some ⟨b2, 0, none⟩))), (9, val (.pointer (some ⟨b3, 0, none⟩))), (10, i64.slot (r6.2.toNat : Int)), (31, i64.slot p_height), (32, i64.slot y5)] [box b2 208 (prod (sl u8) bl) (y6, y7), box b3 211 (prod i64 (prod (sl u8) (exv v3))) ((r3.2.toNat : Int), r5.2, ()), own 23 Qb v3 y8, box b1 211 QY (0, ([] : List (BitVec 8)), ([] : List Qa))]
   refine Q7 (Γ' := [(1, i64.slot p_height), (2, i64.slot p_kind), (6, val (.pointer (some ⟨b1, 0, none⟩))), (8, val (.pointer (some ⟨b2, 0, none⟩))), (9, val (.pointer (some ⟨b3, 0, none⟩))), (10, i64.slot (r6.2.toNat : Int))]) (H' := [box b2 208 (prod (sl u8) bl) (y6, y7), box b3 211 (prod i64 (prod (sl u8) (exv v3))) ((r3.2.toNat : Int), r5.2, ()), own 23 Qb v3 y8, box b1 211 QY (0, ([] : List (BitVec 8)), ([] : List Qa))]) .k6 .h4 ?_
   refine rs <| Qa6 ((r3.2.toNat : Int), r5.2, y8) (.next (.next .here)) (.next .here) (Jx i64 (r3.2.toNat : Int) (Jx (sl u8) r5.2 X1)) ?_
   obtain ⟨r8, e14, h⟩ := bs h
   obtain ⟨y9, e16, h⟩ := bs h
   obtain ⟨y10, e18, h⟩ := bs h
   obtain ⟨y11, e21, h⟩ := bs h
   refine XB (H' := [box b1 211 QY (0, ([] : List (BitVec 8)), ([] : List Qa)), box b3 211 QY ((r3.2.toNat : Int), r5.2, y8), box b2 208 (prod (sl u8) bl) (y6, y7)]) (.cons (.next (.next .here)) <| .cons .here <| .cons .here <| .nil) ?_
   refine (We (n := 25) (Γ' := [(6, val (.pointer (some ⟨b1, 0, none⟩))), (67, bl.slot y11)]) (H' := [box b1 211 QY ((r3.2.toNat : Int), r5.2, y8)]) ?_ fun J => ?_)
   ·clear e16 e18 e21
    refine ja ?_
    refine Qd ?_
    obtain rfl := oi h
    exact Qj fun a w hst => JX hst rfl (.cons (.cell rfl .here (by kernel_rfl)) <| .cons (.tmp rfl) <| .nil) rfl () (fun _ _ h => h) (.nil)
   ·rcases Jj (r8) with e15 | e15
    ·replace e16 := bt e15 e16
     rcases Jj (y9) with e17 | e17
     ·replace e18 := bt e17 e18
      obtain ⟨e19, e18⟩ := QD e18
      rcases Jj (y10) with e20 | e20
      ·replace e21 := bt e20 e21
       obtain ⟨r9, e22, e21⟩ := bind_some e21
       obtain ⟨r10, e23, e21⟩ := bind_some e21
       exact rdL (n := 25) (H := [box b3 211 QY ((r3.2.toNat : Int), r5.2, y8), box b2 208 (prod (sl u8) bl) (y6, y7)]) (Ls := [⟨[box b1 211 QY (0, ([] : List (BitVec 8)), ([] : List Qa))], [(24, ⟨Unit, fun (_ : Unit) => [box b1 211 QY ((r3.2.toNat : Int), r5.2, y8)], fun (_ : Unit) => []⟩)]⟩, ⟨[], [(18, ⟨Nat, fun (b4 : Nat) => [box b4 208 (prod (sl u8) bl) (r9.1, r9.2)], fun (b4 : Nat) => [(62, val (.pointer (some ⟨b4, 0, none⟩)))]⟩), (19, ⟨Nat, fun (b4 : Nat) => [box b4 208 (prod (sl u8) bl) (r10.1.1, r10.1.2)], fun (b4 : Nat) => [(63, u32.slot r10.2), (62, val (.pointer (some ⟨b4, 0, none⟩)))]⟩)]⟩]) (.p (plb (ht rfl) .here .a) <| .m rfl <| .p (VF tl1 (.next .here) (by kernel_rfl) (fun _ => (Vq e14))) <| .m rfl <| .read rfl (.yes (gY e15) (pm (ht rfl))) <| .read rfl (.yes (gY e15) (pm (ht rfl))) <| .read rfl (.yes (gY e15) (ZL (ht rfl) (ht rfl))) <| .p (pk1 e15 (ht rfl) (oi e16)) <| .m rfl <| .read rfl (.yes (gY e17) (pfp (off := 0) (ht rfl))) <| .read rfl (.yes (gY e17) (plb (ht rfl) .here (.t .a .f))) <| .read rfl (.yes (gY e17) (pm (ht rfl))) <| .read rfl (.yes (gY e17) (KU Qe (ht rfl) Qg e19)) <| .read rfl (.yes (gY e17) (Q5 (ht rfl) (ht rfl))) <| .p (pk1 e17 (ht rfl) (oi e18)) <| .m rfl <| .read rfl (.yes (gY e20) (pfp (off := 1) (ht rfl))) <| .read rfl (.yes (gY e20) (plb (ht rfl) .here (.t .a (.t .s .f)))) <| .step 1 rfl .here (.inr (gY e20)) (fun i => ⟨_, _, fun j => j, (wc tl1 (Um e22) .nil), fun _ => rfl, VY, Bu⟩) <| .step 1 rfl (.next .here) (.inr (gY e20)) (fun i => ⟨_, _, fun _ => i, (wc tl1 (Zn e23) .h1), fun _ => rfl, QdB, Bu⟩) <| .read rfl (.yes (gY e20) (YV (by decide) (by kernel_rfl) (ht rfl))) <| .read rfl (.yes (gY e20) (pm (ht rfl))) <| .read rfl (.yes (gY e20) (ZL (ht rfl) (ht rfl))) <| .p (pk1 e20 (ht rfl) (oi e21)) <| .step 0 rfl .here (.inl rfl) (fun i => ⟨_, _, fun _ => (), (qC (r' := ((r3.2.toNat : Int), r5.2, y8)) (ht rfl) (ht rfl) .here .a (by kernel_rfl) rfl), fun _ => rfl, (QbD (s := any)), QhW⟩) <| .nil) (fun _ b4 => Ja (Γ' := [(6, val (.pointer (some ⟨b1, 0, none⟩))), (67, bl.slot y11)]) (H' := [box b1 211 QY ((r3.2.toNat : Int), r5.2, y8)]) .k2 .h1 J)
      ·replace e21 := bf e20 e21
       exact rdL (n := 25) (H := [box b3 211 QY ((r3.2.toNat : Int), r5.2, y8), box b2 208 (prod (sl u8) bl) (y6, y7)]) (Ls := [⟨[box b1 211 QY (0, ([] : List (BitVec 8)), ([] : List Qa))], [(24, ⟨Unit, fun (_ : Unit) => [box b1 211 QY ((r3.2.toNat : Int), r5.2, y8)], fun (_ : Unit) => []⟩)]⟩]) (.p (plb (ht rfl) .here .a) <| .m rfl <| .p (VF tl1 (.next .here) (by kernel_rfl) (fun _ => (Vq e14))) <| .m rfl <| .read rfl (.yes (gY e15) (pm (ht rfl))) <| .read rfl (.yes (gY e15) (pm (ht rfl))) <| .read rfl (.yes (gY e15) (ZL (ht rfl) (ht rfl))) <| .p (pk1 e15 (ht rfl) (oi e16)) <| .m rfl <| .read rfl (.yes (gY e17) (pfp (off := 0) (ht rfl))) <| .read rfl (.yes (gY e17) (plb (ht rfl) .here (.t .a .f))) <| .read rfl (.yes (gY e17) (pm (ht rfl))) <| .read rfl (.yes (gY e17) (KU Qe (ht rfl) Qg e19)) <| .read rfl (.yes (gY e17) (Q5 (ht rfl) (ht rfl))) <| .p (pk1 e17 (ht rfl) (oi e18)) <| .m rfl <| .read rfl (.no (gN e20)) <| .read rfl (.no (gN e20)) <| .read rfl (.no (gN e20)) <| .read rfl (.no (gN e20)) <| .read rfl (.no (gN e20)) <| .read rfl (.no (gN e20)) <| .read rfl (.no (gN e20)) <| .p (pk2 e20 QQ (oi e21)) <| .step 0 rfl .here (.inl rfl) (fun i => ⟨_, _, fun _ => (), (qC (r' := ((r3.2.toNat : Int), r5.2, y8)) (ht rfl) (ht rfl) .here .a (by kernel_rfl) rfl), fun _ => rfl, (QbD (s := any)), QhW⟩) <| .nil) (fun _ => Ja (Γ' := [(6, val (.pointer (some ⟨b1, 0, none⟩))), (67, bl.slot y11)]) (H' := [box b1 211 QY ((r3.2.toNat : Int), r5.2, y8)]) .k2 .h1 J)
     ·replace e18 := bf e17 e18
      rcases Jj (y10) with e20 | e20
      ·exact absurd ((oi e18).trans e20) (by decide)
      ·replace e21 := bf e20 e21
       exact rdL (n := 25) (H := [box b3 211 QY ((r3.2.toNat : Int), r5.2, y8), box b2 208 (prod (sl u8) bl) (y6, y7)]) (Ls := [⟨[box b1 211 QY (0, ([] : List (BitVec 8)), ([] : List Qa))], [(24, ⟨Unit, fun (_ : Unit) => [box b1 211 QY ((r3.2.toNat : Int), r5.2, y8)], fun (_ : Unit) => []⟩)]⟩]) (.p (plb (ht rfl) .here .a) <| .m rfl <| .p (VF tl1 (.next .here) (by kernel_rfl) (fun _ => (Vq e14))) <| .m rfl <| .read rfl (.yes (gY e15) (pm (ht rfl))) <| .read rfl (.yes (gY e15) (pm (ht rfl))) <| .read rfl (.yes (gY e15) (ZL (ht rfl) (ht rfl))) <| .p (pk1 e15 (ht rfl) (oi e16)) <| .m rfl <| .read rfl (.no (gN e17)) <| .read rfl (.no (gN e17)) <| .read rfl (.no (gN e17)) <| .read rfl (.no (gN e17)) <| .read rfl (.no (gN e17)) <| .p (pk2 e17 QQ (oi e18)) <| .m rfl <| .read rfl (.no (gN e20)) <| .read rfl (.no (gN e20)) <| .read rfl (.no (gN e20)) <| .read rfl (.no (gN e20)) <| .read rfl (.no (gN e20)) <| .read rfl (.no (gN e20)) <| .read rfl (.no (gN e20)) <| .p (pk2 e20 QQ (oi e21)) <| .step 0 rfl .here (.inl rfl) (fun i => ⟨_, _, fun _ => (), (qC (r' := ((r3.2.toNat : Int), r5.2, y8)) (ht rfl) (ht rfl) .here .a (by kernel_rfl) rfl), fun _ => rfl, (QbD (s := any)), QhW⟩) <| .nil) (fun _ => Ja (Γ' := [(6, val (.pointer (some ⟨b1, 0, none⟩))), (67, bl.slot y11)]) (H' := [box b1 211 QY ((r3.2.toNat : Int), r5.2, y8)]) .k2 .h1 J)
    ·replace e16 := bf e15 e16
     rcases Jj (y9) with e17 | e17
     ·exact absurd ((oi e16).trans e17) (by decide)
     ·replace e18 := bf e17 e18
      rcases Jj (y10) with e20 | e20
      ·exact absurd ((oi e18).trans e20) (by decide)
      ·replace e21 := bf e20 e21
       exact rdL (n := 25) (H := [box b3 211 QY ((r3.2.toNat : Int), r5.2, y8), box b2 208 (prod (sl u8) bl) (y6, y7)]) (Ls := [⟨[box b1 211 QY (0, ([] : List (BitVec 8)), ([] : List Qa))], [(24, ⟨Unit, fun (_ : Unit) => [box b1 211 QY ((r3.2.toNat : Int), r5.2, y8)], fun (_ : Unit) => []⟩)]⟩]) (.p (plb (ht rfl) .here .a) <| .m rfl <| .p (VF tl1 (.next .here) (by kernel_rfl) (fun _ => (Vq e14))) <| .m rfl <| .read rfl (.no (gN e15)) <| .read rfl (.no (gN e15)) <| .read rfl (.no (gN e15)) <| .p (pk2 e15 QQ (oi e16)) <| .m rfl <| .read rfl (.no (gN e17)) <| .read rfl (.no (gN e17)) <| .read rfl (.no (gN e17)) <| .read rfl (.no (gN e17)) <| .read rfl (.no (gN e17)) <| .p (pk2 e17 QQ (oi e18)) <| .m rfl <| .read rfl (.no (gN e20)) <| .read rfl (.no (gN e20)) <| .read rfl (.no (gN e20)) <| .read rfl (.no (gN e20)) <| .read rfl (.no (gN e20)) <| .read rfl (.no (gN e20)) <| .read rfl (.no (gN e20)) <| .p (pk2 e20 QQ (oi e21)) <| .step 0 rfl .here (.inl rfl) (fun i => ⟨_, _, fun _ => (), (qC (r' := ((r3.2.toNat : Int), r5.2, y8)) (ht rfl) (ht rfl) .here .a (by kernel_rfl) rfl), fun _ => rfl, (QbD (s := any)), QhW⟩) <| .nil) (fun _ => Ja (Γ' := [(6, val (.pointer (some ⟨b1, 0, none⟩))), (67, bl.slot y11)]) (H' := [box b1 211 QY ((r3.2.toNat : Int), r5.2, y8)]) .k2 .h1 J)
theorem W7 {G : GP} {Sy : Type} {p_f : JC} {p_b : List (BitVec 8)} {yl : Sy → Int → Option Sy} {s0 : Sy} {L : Nat} {rc : Loop} {E : Sy → Ent} {r : Sy} (hY : ∀ s d s', yl s d = some s' → Qah Tryz.prog G L rc (i64.slot d) (E s) (E s')) (h : Vj p_f p_b yl s0 = some r) : Qgj Tryz.prog G L rc 184 [Qx.slot p_f, (sl u8).slot p_b, val (yv L)] [E s0] (fun (_ : Unit) => tup []) (fun (_ : Unit) => [E r]) := by
 unfold Vj at h
 refine WR Tryz.func184 rfl 35 rfl rfl fun m0 w0 b0 hl hb => ?_
 show Run _ _ _ [(0, Qx.slot p_f), (1, (sl u8).slot p_b), (2, val (yv L))] _
 refine rs <| rt <| jq (QW (ht rfl)) ?_
 refine Qd <| rs <| rt <| jm ?_
 refine jq (QR (sz := 1) (ht rfl) (by kernel_rfl)) ?_
 refine jq (pm Qe) ?_
 refine Qd ?_
 obtain ⟨⟨y8, y9⟩, e9, h⟩ := bs h
 refine Q2 (Γi := fun (i : Unit) (s : Int × Sy) => [(2, val (yv L)), (3, Qo Qx p_f), (9, (sl u8).slot p_b), (10, i64.slot (p_b.length : Int)), (11, i64.slot s.1)]) (Hi := fun (i : Unit) (s : Int × Sy) => [E s.2]) e9 () (fun a w hst => (hst.sub .k5).keep .h1) ?_ ?_
 ·clear h e9
  rintro _ ⟨y1, y2⟩ lr h
  change YC p_b p_f yl y1 y2 = some _ at h
  show Run _ _ _ [(2, val (yv L)), (3, Qo Qx p_f), (9, (sl u8).slot p_b), (10, i64.slot (p_b.length : Int)), (11, i64.slot y1)] [E y2]
  unfold YC at h
  refine rs <| rt <| jq (Q5 (ht rfl) (ht rfl)) ?_
  refine Qd <| rs <| Qm (ht rfl) (fun e1 => ?_) (fun e1 => ?_)
  ·replace h := bt e1 h
   refine Qk <| rs <| QH <| rs <| rt ?_
   obtain ⟨x1, e2, h⟩ := bs h
   refine jq (pix (ht rfl) (ht rfl) Qg e2) ?_
   refine jl ?_
   refine ja ?_
   refine Qd <| rs <| rt <| jq (pft (ht rfl) .f) ?_
   refine jl ?_
   refine jq (JF Qe (ht rfl)) ?_
   refine ja ?_
   refine Qd ?_
   obtain ⟨⟨y6, y7⟩, e8, h⟩ := bs h
   refine Q2 (Γi := fun (i : Unit) (s : Int × Sy) => [(2, val (yv L)), (3, Qo Qx p_f), (7, u8.slot x1), (8, i64.slot s.1), (9, (sl u8).slot p_b), (10, i64.slot (p_b.length : Int)), (11, i64.slot y1)]) (Hi := fun (i : Unit) (s : Int × Sy) => [E s.2]) e8 () (fun a w hst => (hst.sub .k7).keep .h1) ?_ ?_
   ·clear h e8
    rintro _ ⟨y3, y4⟩ lr h
    change Yy p_f yl x1 y3 y4 = some _ at h
    show Run _ _ _ [(2, val (yv L)), (3, Qo Qx p_f), (7, u8.slot x1), (8, i64.slot y3), (9, (sl u8).slot p_b), (10, i64.slot (p_b.length : Int)), (11, i64.slot y1)] [E y4]
    unfold Yy at h
    refine rs <| rs <| rt <| jm ?_
    refine jq (Y1 (ht rfl) Qe) ?_
    refine Qd <| Qm (ht rfl) (fun e3 => ?_) (fun e3 => ?_)
    ·replace h := bt e3 h
     refine Qk <| rs <| QH <| rs ?_
     obtain ⟨e4, h⟩ := QD h
     obtain ⟨r1, e5, h⟩ := bs h
     refine rd (n := 8) (.m rfl <| .m rfl <| .p (YV (by decide) (by kernel_rfl) (ht rfl)) <| .m rfl <| .p (Br (ht rfl) (ht rfl) Qg e4) <| .p (plt (ht rfl)) <| .p (pc tl1 (VX e5)) <| .p (QhA (ht rfl) (ht rfl)) <| .nil) (Ja (Γ' := [(2, val (yv L)), (3, Qo Qx p_f), (7, u8.slot x1), (8, i64.slot y3), (9, (sl u8).slot p_b), (10, i64.slot (p_b.length : Int)), (11, i64.slot y1), (24, val (yv L)), (31, i64.slot (Qfr (U9 (x1.toNat : Int) y3) r1))]) (H' := [E y4]) .k9 .h1 ?_)
     obtain ⟨y5, e6, h⟩ := bs h
     refine QhC (ht rfl) (ht rfl) hl hb (hY _ _ _ e6) rfl ?_
     refine jq (ZG (ht rfl)) ?_
     refine Qd <| YB (ht rfl) rfl ?_
     refine Qk <| Qp <| rt <| jm ?_
     refine jq (pft (ht rfl) .f) ?_
     refine jl ?_
     refine jq (JF (ht rfl) (ht rfl)) ?_
     refine ja ?_
     refine Qd ?_
     obtain rfl := oi h
     exact Q0 () .k7 .h1
    ·replace h := bf e3 h
     obtain rfl := oi h
     exact Je () .k7 .h1
   ·rintro _
    show Run _ _ _ [(2, val (yv L)), (3, Qo Qx p_f), (7, u8.slot x1), (8, i64.slot y6), (9, (sl u8).slot p_b), (10, i64.slot (p_b.length : Int)), (11, i64.slot y1)] [E y7]
    refine Q7 (Γ' := [(2, val (yv L)), (3, Qo Qx p_f), (9, (sl u8).slot p_b), (10, i64.slot (p_b.length : Int)), (11, i64.slot y1)]) (H' := [E y7]) .k5 .h1 ?_
    refine Qp <| rt <| jq (QS (ht rfl) Qe) ?_
    refine jm ?_
    refine Qd ?_
    obtain rfl := oi h
    exact Q0 () .k5 .h1
  ·replace h := bf e1 h
   obtain rfl := oi h
   exact Je () .k5 .h1
 ·rintro _
  show Run _ _ _ [(2, val (yv L)), (3, Qo Qx p_f), (9, (sl u8).slot p_b), (10, i64.slot (p_b.length : Int)), (11, i64.slot y8)] [E y9]
  refine Q7 (Γ' := []) (H' := [E y9]) (.nil) .h1 ?_
  obtain rfl := oi h
  exact YZ fun a w hst => Kt hst rfl (.nil) rfl () (fun _ _ h => h) .h1
theorem Qaj {G : GP} {Sy : Type} {yl : Sy → Int → Option Sy} {q_0 : JC} {q_1 : Qa} {s0 : Sy} {L : Nat} {rc : Loop} {E : Sy → Ent} {r : Sy} (hY : ∀ s d s', yl s d = some s' → Qah Tryz.prog G L rc (i64.slot d) (E s) (E s')) (h : Kl yl q_0 q_1 s0 = some r) : Qgj Tryz.prog G L rc 187 [val (yv L), Qo Qx q_0, Qo Qb q_1] [E s0] (fun (_ : Unit) => tup []) (fun (_ : Unit) => [E r]) := by
 unfold Kl at h
 refine WR Tryz.func187 rfl 8 rfl rfl fun m0 w0 b0 hl hb => ?_
 show Run _ _ _ [(0, val (yv L)), (1, Qo Qx q_0), (2, Qo Qb q_1)] _
 refine rd (n := 3) (.p (plt (ht rfl)) <| .p (JA (ht rfl) (by decide) (by kernel_rfl)) <| .m rfl <| .nil) (Ja (Γ' := [(4, Qx.slot q_0), (5, (sl u8).slot q_1.toList), (6, val (yv L))]) (H' := [E s0]) .k3 .h1 ?_)
 obtain ⟨y1, e2, h⟩ := bs h
 refine Qht tl3 (by kernel_rfl) hl hb (W7 hY e2) rfl ?_
 refine Qd ?_
 obtain rfl := oi h
 exact YZ fun a w hst => Kt hst rfl (.nil) rfl () (fun _ _ h => h) .h1
theorem Qbq {G : GP} {p_f : JC} {p_h : Qa} {r : (List (BitVec 8))} (h : V3 p_f p_h = some r) : Ctr Tryz.prog G 182 [Qx.slot p_f, Qb.slot p_h] [] (fun (u0 : Value) => ov u0) (fun (u0 : Value) => [own 5 u8 u0 r]) := by
 unfold V3 at h
 refine B7 Tryz.func182 rfl 25 rfl rfl fun m0 w0 b0 => ?_
 show Run _ _ _ [(0, Qx.slot p_f), (1, Qb.slot p_h)] _
 refine rs <| rt <| jq (QW (ht rfl)) ?_
 refine jq (QW (ht rfl)) ?_
 refine QC (T := 5) u8 rfl fun v1 => ?_
 refine Qd <| rs <| rt <| al (x := 0) (R := i64) QG fun b1 => ?_
 refine jk (r' := (0 : Int)) (ht rfl) Qe .here .a ?_
 refine Qd <| rs <| rs <| rt <| jq (WQ tl2) ?_
 refine Qd <| QH <| Q7 (Γ' := [(2, Qo Qx p_f), (5, val (.pointer (some ⟨b1, 0, none⟩))), (7, fnS 187 [Qo Qx p_f, Qo Qb p_h])]) (H' := [box b1 3 i64 (0 : Int)]) .k3 .h1 ?_
 obtain ⟨y2, e2, h⟩ := bs h
 refine W3 (σ := Int) (α := Int) (κ := Unit) (Es := fun (i : Unit) (s : Int) => [box b1 3 i64 s]) (y := (fun (s : Int) (d : Int) => Yc p_f s d)) (sd := fun d => i64.slot d) (Γ1 := fun d => [(2, Qo Qx p_f), (5, val (.pointer (some ⟨b1, 0, none⟩))), (6, i64.slot d)]) () (ht rfl) (by kernel_rfl) rfl .h1 (fun l rc G' hG hY => (Qaj (E := fun (s : Int) => QaU fun (i : Unit) => [box b1 3 i64 s]) hY e2)) ?_ ?_ ?_
 ·clear h e2
  rintro lz mz wz bz _ y1 d s2 h
  show Run _ _ _ ((8, i64.slot d) :: [(2, Qo Qx p_f), (5, val (.pointer (some ⟨b1, 0, none⟩))), (7, fnS 187 [Qo Qx p_f, Qo Qb p_h])]) [box b1 3 i64 y1]
  refine rt <| ja ?_
  exact Qd <| YZ fun a w hst => ⟨rfl, (hst.sub .k3).keep .h1⟩
 ·clear h e2
  rintro lz mz wz bz _ y1 d s2 h
  change Yc p_f y1 d = some _ at h
  show Run _ _ _ [(2, Qo Qx p_f), (5, val (.pointer (some ⟨b1, 0, none⟩))), (6, i64.slot d)] [box b1 3 i64 y1]
  unfold Yc at h
  refine QH ?_
  obtain ⟨r1, e1, h⟩ := bs h
  refine rd (n := 5) (.p (plb (ht rfl) .here .a) <| .p (plt (ht rfl)) <| .p (pc tl1 (VX e1)) <| .m rfl <| .p (JF (ht rfl) (ht rfl)) <| .nil) (Ja (Γ' := [(5, val (.pointer (some ⟨b1, 0, none⟩))), (9, i64.slot y1), (13, i64.slot (w64 (r1 - d)))]) (H' := [box b1 3 i64 y1]) .k3 .h1 ?_)
  refine jq (QS (ht rfl) (ht rfl)) ?_
  refine jk (r' := w64 (y1 + (w64 (r1 - d)))) (ht rfl) (ht rfl) .here .a ?_
  refine Qd <| Qp ?_
  obtain rfl := oi h
  exact YZ fun a w hst => ⟨rfl, (), (hst.sub .nil).keep .h1⟩
 ·rintro _
  show Run _ _ _ [(2, Qo Qx p_f), (5, val (.pointer (some ⟨b1, 0, none⟩))), (7, fnS 187 [Qo Qx p_f, Qo Qb p_h])] [box b1 3 i64 y2]
  refine Q7 (Γ' := [(2, Qo Qx p_f), (5, val (.pointer (some ⟨b1, 0, none⟩)))]) (H' := [box b1 3 i64 y2]) .k2 .h1 ?_
  refine Qp <| rs <| rt <| jq (plb (ht rfl) .here .a) ?_
  refine jq (pft (ht rfl) (.t .s .s)) ?_
  refine jl ?_
  obtain ⟨e3, h⟩ := QD h
  refine jq (KU (ht rfl) (ht rfl) Qg e3) ?_
  refine jk (r' := XG y2 p_f.2.2) (ht rfl) (ht rfl) .here .a ?_
  refine Qd <| rs <| rt <| jq (plb (ht rfl) .here .a) ?_
  refine jq (Br (ht rfl) (Qy (x := 8#64) rfl) JV (Int.natCast_nonneg _)) ?_
  refine jq (Jp (k := .u8) (b := 8) rfl rfl (by kernel_rfl) (ht rfl) Qg) ?_
  refine jq (plb (ht rfl) .here .a) ?_
  refine jq (Jp (k := .u8) (b := 8) rfl rfl (by kernel_rfl) (ht rfl) Qg) ?_
  refine Kg (T := 5) (R := u8) (.cons (ht rfl) (.cons (ht rfl) .nil)) rfl (by kernel_rfl) (by kernel_rfl) rfl fun v2 => ?_
  refine ja ?_
  refine Qd ?_
  obtain rfl := oi h
  exact Qj fun a w hst => qK hst rfl (.tmp rfl) v2 (fun _ _ h => h) .h1
theorem BT {G : GP} {Sy : Type} {yl : Sy → Int → Option Sy} {q_0 : JC} {q_1 : List (BitVec 8)} {s0 : Sy} {L : Nat} {rc : Loop} {E : Sy → Ent} {r : Sy} (hY : ∀ s d s', yl s d = some s' → Qah Tryz.prog G L rc (i64.slot d) (E s) (E s')) (h : Vb yl q_0 q_1 s0 = some r) : Qgj Tryz.prog G L rc 183 [val (yv L), Qo Qx q_0, Qo (sl u8) q_1] [E s0] (fun (_ : Unit) => tup []) (fun (_ : Unit) => [E r]) := by
 unfold Vb at h
 refine WR Tryz.func183 rfl 8 rfl rfl fun m0 w0 b0 hl hb => ?_
 show Run _ _ _ [(0, val (yv L)), (1, Qo Qx q_0), (2, Qo (sl u8) q_1)] _
 refine rt <| jl ?_
 refine jl ?_
 refine jm ?_
 obtain ⟨y1, e2, h⟩ := bs h
 refine Qht tl3 (by kernel_rfl) hl hb (W7 hY e2) rfl ?_
 refine Qd ?_
 obtain rfl := oi h
 exact YZ fun a w hst => Kt hst rfl (.nil) rfl () (fun _ _ h => h) .h1
theorem UU {G : GP} {p_f : JC} {p_h : Qa} {r : (List Int)} (h : Xa p_f p_h = some r) : Ctr Tryz.prog G 163 [Qx.slot p_f, Qb.slot p_h] [] (fun (u0 : Value) => ov u0) (fun (u0 : Value) => [own 3 i64 u0 r]) := by
 unfold Xa at h
 refine B7 Tryz.func163 rfl 28 rfl rfl fun m0 w0 b0 => ?_
 show Run _ _ _ [(0, Qx.slot p_f), (1, Qb.slot p_h)] _
 refine rs <| rt <| jq (QW (ht rfl)) ?_
 refine BH (ht rfl) rfl fun b1 => ?_
 refine QC (T := 3) i64 rfl fun v1 => ?_
 refine Qd <| rs <| rt <| jq (pft (ht rfl) (.t .s .f)) ?_
 refine jl ?_
 obtain ⟨e1, h⟩ := QD h
 refine UE (T := 3) (R := i64) (z := 0) Qe (ht rfl) (by decide) e1.1 e1.2 (by kernel_rfl) QG (by kernel_rfl) rfl fun v2 => ?_
 refine al (x := ([] : List Int)) (R := (sl i64)) J7 fun b2 => ?_
 refine BB (ht rfl) (ht rfl) .here (by kernel_rfl) (by kernel_rfl) ?_
 refine Qd <| rs ?_
 obtain ⟨r1, e2, h⟩ := bs h
 obtain ⟨e3, h⟩ := QD h
 refine XB (H' := [box b2 132 (exv v2) (), own 3 i64 v2 ([] : List Int), own 3 i64 v1 ([] : List Int), box b1 23 Qb p_h]) .h4 ?_
 refine rdL (n := 6) (H := [box b2 132 (exv v2) (), own 3 i64 v2 ([] : List Int), own 3 i64 v1 ([] : List Int), box b1 23 Qb p_h]) (Ls := [⟨[], [(4, ⟨Value, fun (v3 : Value) => [own 5 u8 v3 (p_h.toList ++ r1)], fun (v3 : Value) => [(15, ov v3)]⟩)]⟩, ⟨[], [(5, ⟨Nat, fun (b3 : Nat) => [box b3 31 (sl u8) ([] : List (BitVec 8))], fun (b3 : Nat) => [(6, val (.pointer (some ⟨b3, 0, none⟩)))]⟩)]⟩]) (.p (Kv (lo := 0) (sz := 1) (n := 32) (ht rfl) .no .no 32 32 rfl (by kernel_rfl)) <| .p (plt (ht rfl)) <| .p (plb (ht rfl) (.next (.next (.next .here))) .a) <| .p (pc tl2 (Ctr.froze (Qbq e2))) <| .step 0 rfl .here (.inl rfl) (fun i => ⟨_, _, fun j => j, (QhO (T := 5) (E := 5) (ht rfl) (QjH (ht rfl) (.next (.next (.next .here)))) (Jd (ht rfl)) (by kernel_rfl) (by kernel_rfl) e3 rfl), fun _ => rfl, VY, Bu⟩) <| .step 1 rfl .here (.inl rfl) (fun i => ⟨_, _, fun j => j, (qA (x := ([] : List (BitVec 8))) (R := (sl u8)) J7 (by kernel_rfl) rfl), fun _ => rfl, VY, Bu⟩) <| .nil) ?_
 rintro v3 b3
 refine Ja (Γ' := [(2, Qo Qx p_f), (5, val (.pointer (some ⟨b2, 0, none⟩))), (6, val (.pointer (some ⟨b3, 0, none⟩))), (15, ov v3)]) (H' := [own 5 u8 v3 (p_h.toList ++ r1), box b3 31 (sl u8) ([] : List (BitVec 8)), box b2 132 (exv v2) (), own 3 i64 v2 ([] : List Int)]) .k4 .h4 ?_
 refine B6 [15] .here (Za (.of_lk rfl) <| U2) ?_
 refine jk (r' := (p_h.toList ++ r1)) (ht rfl) (ht rfl) .here .a ?_
 refine Jn (t := 6) .here (.of_lk rfl) ?_
 refine Qd <| rs <| rs <| rt <| jq (WQ tl2) ?_
 refine Qd <| QH <| Q7 (Γ' := [(2, Qo Qx p_f), (5, val (.pointer (some ⟨b2, 0, none⟩))), (16, fnS 183 [Qo Qx p_f, Qo (sl u8) (p_h.toList ++ r1)])]) (H' := [box b2 132 (exv v2) (), own 3 i64 v2 ([] : List Int)]) .k3 .h2 ?_
 obtain ⟨y2, e6, h⟩ := bs h
 refine W3 (σ := (List Int)) (α := Int) (κ := Value) (Es := fun (i : Value) (s : (List Int)) => [box b2 132 (exv i) (), own 3 i64 i s]) (y := (fun (s : (List Int)) (d : Int) => J3 p_f s d)) (sd := fun d => i64.slot d) (Γ1 := fun d => [(2, Qo Qx p_f), (5, val (.pointer (some ⟨b2, 0, none⟩))), (7, i64.slot d)]) v2 (ht rfl) (by kernel_rfl) rfl .h2 (fun l rc G' hG hY => (BT (E := fun (s : (List Int)) => QaU fun (i : Value) => [box b2 132 (exv i) (), own 3 i64 i s]) hY e6)) ?_ ?_ ?_
 ·clear h e6
  rintro lz mz wz bz v4 y1 d s2 h
  show Run _ _ _ ((17, i64.slot d) :: [(2, Qo Qx p_f), (5, val (.pointer (some ⟨b2, 0, none⟩))), (16, fnS 183 [Qo Qx p_f, Qo (sl u8) (p_h.toList ++ r1)])]) [box b2 132 (exv v4) (), own 3 i64 v4 y1]
  refine rt <| ja ?_
  exact Qd <| YZ fun a w hst => ⟨rfl, (hst.sub .k3).keep .h2⟩
 ·clear h e6
  rintro lz mz wz bz v4 y1 d s2 h
  change J3 p_f y1 d = some _ at h
  show Run _ _ _ [(2, Qo Qx p_f), (5, val (.pointer (some ⟨b2, 0, none⟩))), (7, i64.slot d)] [box b2 132 (exv v4) (), own 3 i64 v4 y1]
  unfold J3 at h
  refine QH <| rs <| rt <| jq (plb (ht rfl) .here .a) ?_
  refine jq (Xc (sz := 1) (ht rfl) (.next .here) (by kernel_rfl)) ?_
  refine jq (pft (ht rfl) (.t .s .f)) ?_
  refine jl ?_
  refine jq (Q5 (ht rfl) (ht rfl)) ?_
  refine Qd <| Qm (ht rfl) (fun e4 => ?_) (fun e4 => ?_)
  ·replace h := bt e4 h
   refine rt <| jq (plb (ht rfl) .here .a) ?_
   refine jm ?_
   refine jq (QO (T := 3) (R := i64) (.cons (ht rfl) .nil) rfl (by kernel_rfl) (by kernel_rfl)) ?_
   obtain ⟨e5, h⟩ := QD h
   refine Jg (T := 3) (E := 3) (ht rfl) (.next .here) (Jd (ht rfl)) (by kernel_rfl) (by kernel_rfl) e5 rfl fun v5 => ?_
   refine BB (ht rfl) (ht rfl) (.next .here) (by kernel_rfl) (by kernel_rfl) ?_
   refine Qd <| Qp ?_
   obtain rfl := oi h
   exact YZ fun a w hst => ⟨rfl, v5, (hst.sub .nil).keep .h2⟩
  ·replace h := bf e4 h
   refine Qk <| Qp ?_
   obtain rfl := oi h
   exact YZ fun a w hst => ⟨rfl, v4, (hst.sub .nil).keep .h2⟩
 ·rintro v6
  show Run _ _ _ [(2, Qo Qx p_f), (5, val (.pointer (some ⟨b2, 0, none⟩))), (16, fnS 183 [Qo Qx p_f, Qo (sl u8) (p_h.toList ++ r1)])] [box b2 132 (exv v6) (), own 3 i64 v6 y2]
  refine Q7 (Γ' := [(5, val (.pointer (some ⟨b2, 0, none⟩)))]) (H' := [box b2 132 (exv v6) (), own 3 i64 v6 y2]) .k1 .h2 ?_
  refine Qp <| rs <| rt <| jq (plb (ht rfl) .here .a) ?_
  refine ja ?_
  refine Qd ?_
  obtain rfl := oi h
  exact Qj fun a w hst => qK hst rfl (.tmp rfl) v6 (fun _ _ h => h) (.cons (.next .here) <| .nil)
theorem Qce {G : GP} (hg0 : HG0 G) (hg1 : HG1 G) (hg2 : HG2 G) {p_id : QL} {p_q : BitVec 32} {p_message : List (BitVec 8)} {p_signature : List (BitVec 8)} {r : Qa × Bool} (h : Ku p_id p_q p_message p_signature = some r) : Ctr Tryz.prog G 144 [Qz.slot p_id, u32.slot p_q, (sl u8).slot p_message, (sl u8).slot p_signature] [] (fun (_ : Unit) => tup [Qb.slot r.1, bl.slot r.2]) (fun (_ : Unit) => []) := by
 unfold Ku at h
 refine Ql Tryz.func144 rfl 77 rfl rfl fun m0 w0 b0 => ?_
 show Run _ _ _ [(0, Qz.slot p_id), (1, u32.slot p_q), (2, (sl u8).slot p_message), (3, (sl u8).slot p_signature)] _
 refine rs <| rt <| jq (QW (ht rfl)) ?_
 refine al (x := (Vector.replicate 32 (0#8))) (R := Qb) (QA 32 QK) fun b1 => ?_
 refine jq (pa QQ) ?_
 refine Qd <| rs <| rt <| jm ?_
 obtain ⟨r1, e1, h⟩ := bs h
 refine jc tl1 (Um e1) .nil fun b2 => ?_
 refine ja ?_
 refine Qd <| rs <| rt <| jm ?_
 obtain ⟨r2, e2, h⟩ := bs h
 refine jc tl1 (Zn e2) .h1 fun _ => ?_
 refine ja ?_
 refine Qd <| rs <| rt <| jm ?_
 refine jq (YV (by decide) (by kernel_rfl) (ht rfl)) ?_
 obtain ⟨r3, e3, h⟩ := bs h
 refine jq (pc tl1 (Wm hg0 e3)) ?_
 refine jm ?_
 refine jx ?_
 refine jx ?_
 refine al (x := (0, 0, 0)) (R := Qx) (Qn QG (Qn QG QG)) fun b3 => ?_
 refine jk (r' := r3.1) (ht rfl) (ht rfl) .here .a ?_
 refine Jn (t := 12) .here (.of_lk rfl) ?_
 refine ja ?_
 refine Qd <| rs <| rs <| rt <| jm ?_
 refine jq (ZG (ht rfl)) ?_
 refine jm ?_
 obtain ⟨y1, e5, h⟩ := bs h
 refine Ju (ι := Unit) (Γ' := fun _ => [(1, u32.slot p_q), (2, (sl u8).slot p_message), (4, Qo Qz p_id), (8, val (.pointer (some ⟨b1, 0, none⟩))), (10, val (.pointer (some ⟨b2, 0, none⟩))), (12, Qo Qx r3.1), (37, bl.slot y1)]) (H' := fun _ => [box b2 208 (prod (sl u8) bl) (r2.1.1, r2.1.2), box b1 23 Qb (Vector.replicate 32 (0#8))]) 7 ?_ fun J => ?_
 ·intro _
  clear e5
  show Jc _ _ _ [(1, u32.slot p_q), (2, (sl u8).slot p_message), (4, Qo Qz p_id), (8, val (.pointer (some ⟨b1, 0, none⟩))), (10, val (.pointer (some ⟨b2, 0, none⟩))), (12, Qo Qx r3.1), (37, bl.slot y1)] [box b2 208 (prod (sl u8) bl) (r2.1.1, r2.1.2), box b1 23 Qb (Vector.replicate 32 (0#8))] _
  refine Qd <| Qm (ht rfl) (fun e7 => ?_) (fun e7 => ?_)
  ·replace h := bt e7 h
   refine rs <| rt <| jq (J9 (R := Qb) (QA 32 QK) (by kernel_rfl) (by kernel_rfl) rfl .nil) ?_
   refine jk (r' := (Vector.replicate 32 (0#8))) (ht rfl) (ht rfl) (.next .here) .a ?_
   refine jq (pa QQ) ?_
   refine Qd ?_
   obtain rfl := oi h
   exact Qj fun a w hst => JX hst rfl (.cons (.cell rfl .here (by kernel_rfl)) <| .cons (.tmp rfl) <| .nil) rfl () (fun _ _ h => h) (.nil)
  ·replace h := bf e7 h
   refine Qk <| rs <| rt <| jm ?_
   obtain ⟨r5, e8, h⟩ := bs h
   refine jc (hc (ht rfl) <| hc Qe <| Q1) (Zd e8) .h1 fun _ => ?_
   refine ja ?_
   refine Qd <| rs <| rt <| jq (pft (ht rfl) (.t .s .f)) ?_
   refine jl ?_
   obtain ⟨e9, h⟩ := QD h
   obtain ⟨x1, e10, h⟩ := bs h
   refine QaP (T := 23) (R := Qb) (z := (Vector.replicate 32 (0#8))) (ht rfl) (ht rfl) e9.1 (Int.le_refl _) e9.2 (by kernel_rfl) (QA 32 QK) (by kernel_rfl) (oi e10) rfl fun v1 => ?_
   refine ja ?_
   refine Qd <| rs <| rs ?_
   obtain ⟨r6, e11, h⟩ := bs h
   obtain ⟨r7, e12, h⟩ := bs h
   refine rd (n := 10) (.p (plt (ht rfl)) <| .p (plt (ht rfl)) <| .m rfl <| .m rfl <| .m rfl <| .p (QO (T := 31) (R := (sl u8)) (.cons (ht rfl) (.cons (ht rfl) .nil)) rfl (by kernel_rfl) (by kernel_rfl)) <| .p (pc (hc (ht rfl) <| hc (ht rfl) <| hc Qe <| hc (ht rfl) <| Q1) (Ky hg1 hg2 e11)) <| .p (pc tl2 (Ctr.froze (UU e12))) <| .p (QR (sz := 1) (ht rfl) (by kernel_rfl)) <| .p (pm Qe) <| .nil) (Ja (Γ' := [(1, u32.slot p_q), (4, Qo Qz p_id), (8, val (.pointer (some ⟨b1, 0, none⟩))), (10, val (.pointer (some ⟨b2, 0, none⟩))), (12, Qo Qx r3.1), (15, ov v1), (51, (sl i64).slot r7), (52, i64.slot (r7.length : Int)), (53, i64.slot (0 : Int))]) (H' := [own 23 Qb v1 x1, box b2 208 (prod (sl u8) bl) (r5.1.1, r5.1.2), box b1 23 Qb (Vector.replicate 32 (0#8))]) .k9 .h3 ?_)
   refine Qd ?_
   obtain ⟨⟨y6, y7, y8, y9⟩, e20, h⟩ := bs h
   refine Q2 (Γi := fun (i : Unit) (s : Int × (List Qa) × (List (BitVec 8)) × Bool) => [(1, u32.slot p_q), (4, Qo Qz p_id), (8, val (.pointer (some ⟨b1, 0, none⟩))), (10, val (.pointer (some ⟨b2, 0, none⟩))), (12, Qo Qx r3.1), (15, ov v1), (51, (sl i64).slot r7), (52, i64.slot (r7.length : Int)), (53, i64.slot s.1)]) (Hi := fun (i : Unit) (s : Int × (List Qa) × (List (BitVec 8)) × Bool) => [own 23 Qb v1 s.2.1, box b2 208 (prod (sl u8) bl) (s.2.2.1, s.2.2.2), box b1 23 Qb (Vector.replicate 32 (0#8))]) e20 () (fun a w hst => (hst.sub .k9).keep .h3) ?_ ?_
   ·clear h e20
    rintro _ ⟨y2, y3, y4, y5⟩ lr h
    change YW r7 r3 p_id p_q y2 y3 y4 y5 = some _ at h
    show Run _ _ _ [(1, u32.slot p_q), (4, Qo Qz p_id), (8, val (.pointer (some ⟨b1, 0, none⟩))), (10, val (.pointer (some ⟨b2, 0, none⟩))), (12, Qo Qx r3.1), (15, ov v1), (51, (sl i64).slot r7), (52, i64.slot (r7.length : Int)), (53, i64.slot y2)] [own 23 Qb v1 y3, box b2 208 (prod (sl u8) bl) (y4, y5), box b1 23 Qb (Vector.replicate 32 (0#8))]
    unfold YW at h
    refine rs <| rt <| jq (Q5 (ht rfl) (ht rfl)) ?_
    refine Qd <| rs <| Qm (ht rfl) (fun e13 => ?_) (fun e13 => ?_)
    ·replace h := bt e13 h
     refine Qk <| rs <| QH <| rs <| rt <| jm ?_
     obtain ⟨x2, e14, h⟩ := bs h
     refine jq (pix (ht rfl) (ht rfl) Qg e14) ?_
     refine jl ?_
     refine ja ?_
     refine ja ?_
     refine Qd ?_
     obtain ⟨r8, e15, h⟩ := bs h
     obtain ⟨x3, e16, h⟩ := bs h
     obtain ⟨r9, e17, h⟩ := bs h
     obtain ⟨r10, e18, h⟩ := bs h
     refine XB (H' := [box b2 208 (prod (sl u8) bl) (y4, y5), own 23 Qb v1 y3, box b1 23 Qb (Vector.replicate 32 (0#8))]) (.cons (.next .here) <| .cons .here <| .cons .here <| .nil) ?_
     refine rdL (n := 13) (H := [own 23 Qb v1 y3, box b1 23 Qb (Vector.replicate 32 (0#8))]) (Ls := [⟨[box b2 208 (prod (sl u8) bl) (y4, y5)], [(6, ⟨Unit, fun (_ : Unit) => [box b2 208 (prod (sl u8) bl) (r8.1.1, r8.1.2)], fun (_ : Unit) => [(64, (sl u8).slot r8.2)]⟩)]⟩]) (.m rfl <| .m rfl <| .p (plt (ht rfl)) <| .m rfl <| .m rfl <| .m rfl <| .step 0 rfl .here (.inl rfl) (fun i => ⟨_, _, fun _ => (), (wc (hc (ht rfl) <| hc Qe <| Q1) (Zd e15) .h1), fun _ => rfl, QdB, Bu⟩) <| .p (QaB (e := 5) (ht rfl) e16 rfl (by kernel_rfl)) <| .p (plt (ht rfl)) <| .m rfl <| .p (plt (ht rfl)) <| .p (pc tl1 (VX e17)) <| .p (pc tl6 (WZ hg1 hg2 e18)) <| .nil) ?_
     rintro _
     refine Ja (Γ' := [(1, u32.slot p_q), (4, Qo Qz p_id), (8, val (.pointer (some ⟨b1, 0, none⟩))), (10, val (.pointer (some ⟨b2, 0, none⟩))), (12, Qo Qx r3.1), (15, ov v1), (51, (sl i64).slot r7), (52, i64.slot (r7.length : Int)), (53, i64.slot y2), (58, ov v1), (59, i64.slot y2), (70, Qb.slot r10)]) (H' := [box b2 208 (prod (sl u8) bl) (r8.1.1, r8.1.2), own 23 Qb v1 y3, box b1 23 Qb (Vector.replicate 32 (0#8))]) .k12 .h3 ?_
     obtain ⟨e19, h⟩ := QD h
     refine jq (Zh (ht rfl) (.next .here) (ht rfl) Qg e19.1 (VP e19) (by kernel_rfl)) ?_
     refine U5 Qb (y2.toNat) (ht rfl) (ht rfl) (.next .here) (VP e19) (by kernel_rfl) ?_
     refine Qd <| Qp <| rt <| jq (QS (ht rfl) Qe) ?_
     refine jm ?_
     refine Qd ?_
     obtain rfl := oi h
     exact Q0 () .k9 .h3
    ·replace h := bf e13 h
     obtain rfl := oi h
     exact Je () .k9 .h3
   ·rintro _
    show Run _ _ _ [(1, u32.slot p_q), (4, Qo Qz p_id), (8, val (.pointer (some ⟨b1, 0, none⟩))), (10, val (.pointer (some ⟨b2, 0, none⟩))), (12, Qo Qx r3.1), (15, ov v1), (51, (sl i64).slot r7), (52, i64.slot (r7.length : Int)), (53, i64.slot y6)] [own 23 Qb v1 y7, box b2 208 (prod (sl u8) bl) (y8, y9), box b1 23 Qb (Vector.replicate 32 (0#8))]
    refine Q7 (Γ' := [(1, u32.slot p_q), (4, Qo Qz p_id), (8, val (.pointer (some ⟨b1, 0, none⟩))), (15, ov v1)]) (H' := [own 23 Qb v1 y7, box b1 23 Qb (Vector.replicate 32 (0#8))]) .k4 (.cons .here <| .cons (.next .here) <| .nil) ?_
    refine rs <| rt <| jl ?_
    refine jm ?_
    refine jm ?_
    obtain ⟨r11, e21, h⟩ := bs h
    refine jq (Z4 (QX (ZY (ht rfl)) <| QX (ZY (ht rfl)) <| QX (VD (ht rfl) .here) <| J8) (by kernel_rfl) (ql hg1 hg2 e21) (Rep.flat_slot (Vy _ (Kd _ _)) _)) ?_
    refine jk (r' := r11) (ht rfl) (ht rfl) (.next .here) .a ?_
    refine jq (pa QQ) ?_
    refine Qd ?_
    obtain rfl := oi h
    exact Qj fun a w hst => JX hst rfl (.cons (.cell rfl .here (by kernel_rfl)) <| .cons (.tmp rfl) <| .nil) rfl () (fun _ _ h => h) (.nil)
 ·rcases Jj (!r3.2) with e4 | e4
  ·replace e5 := bt e4 e5
   refine jN e4 ?_
   refine jN e4 ?_
   refine jN e4 ?_
   refine jN e4 ?_
   refine jN e4 ?_
   refine jN e4 ?_
   refine jq (pk1 e4 QQ (oi e5)) ?_
   exact Ja .k7 .h2 (J ())
  ·replace e5 := bf e4 e5
   refine jz (pm (ht rfl)) e4 ?_
   refine jz (QR (sz := 1) (ht rfl) (by kernel_rfl)) e4 ?_
   refine jz (pm (ht rfl)) e4 ?_
   refine jz (YV (by decide) (by kernel_rfl) (ht rfl)) e4 ?_
   obtain ⟨r4, e6, e5⟩ := bind_some e5
   refine jz (pc tl1 (Bj hg0 e6)) e4 ?_
   refine jz (Yt (ht rfl) (ht rfl)) e4 ?_
   refine jq (pk2 e4 (ht rfl) (oi e5)) ?_
   exact Ja .k7 .h2 (J ())
theorem Qf8 {G : GP} (hg1 : HG1 G) (hg2 : HG2 G) {p_id : QL} {p_r : Int} {p_h : Qa} {p_path : List Qa} {r : Qa} (h : W5 p_id p_r p_h p_path = some r) : Ctr Tryz.prog G 145 [Qz.slot p_id, i64.slot p_r, Qb.slot p_h, (sl Qb).slot p_path] [] (fun (_ : Unit) => Qb.slot r) (fun (_ : Unit) => []) := by
 unfold W5 at h
 refine Ql Tryz.func145 rfl 35 rfl rfl fun m0 w0 b0 => ?_
 show Run _ _ _ [(0, Qz.slot p_id), (1, i64.slot p_r), (2, Qb.slot p_h), (3, (sl Qb).slot p_path)] _
 refine rs <| rt <| jq (QW (ht rfl)) ?_
 refine BH (ht rfl) rfl fun b1 => ?_
 refine al (x := (Vector.replicate 32 (0#8))) (R := Qb) (QA 32 QK) fun b2 => ?_
 refine Qd <| rs <| rs <| rt <| jm ?_
 refine jq (QR (sz := 32) (ht rfl) (by kernel_rfl)) ?_
 refine jq (pm Qe) ?_
 refine Qd ?_
 obtain ⟨⟨y6, y7, y8⟩, e6, h⟩ := bs h
 refine Q2 (Γi := fun (i : Unit) (s : Int × Int × Qa) => [(1, i64.slot s.1), (4, Qo Qz p_id), (6, val (.pointer (some ⟨b1, 0, none⟩))), (8, val (.pointer (some ⟨b2, 0, none⟩))), (13, (sl Qb).slot p_path), (14, i64.slot (p_path.length : Int)), (15, i64.slot s.2.1)]) (Hi := fun (i : Unit) (s : Int × Int × Qa) => [box b2 23 Qb (Vector.replicate 32 (0#8)), box b1 23 Qb s.2.2]) e6 () (fun a w hst => (hst.sub .k7).keep .h2) ?_ ?_
 ·clear h e6
  rintro _ ⟨y1, y2, y3⟩ lr h
  change Vr p_path p_id y1 y2 y3 = some _ at h
  show Run _ _ _ [(1, i64.slot y1), (4, Qo Qz p_id), (6, val (.pointer (some ⟨b1, 0, none⟩))), (8, val (.pointer (some ⟨b2, 0, none⟩))), (13, (sl Qb).slot p_path), (14, i64.slot (p_path.length : Int)), (15, i64.slot y2)] [box b2 23 Qb (Vector.replicate 32 (0#8)), box b1 23 Qb y3]
  unfold Vr at h
  refine rs <| rt <| jq (Q5 (ht rfl) (ht rfl)) ?_
  refine Qd <| rs <| Qm (ht rfl) (fun e1 => ?_) (fun e1 => ?_)
  ·replace h := bt e1 h
   refine Qk <| rs <| QH <| rs <| rt ?_
   obtain ⟨x1, e2, h⟩ := bs h
   refine jq (pix (ht rfl) (ht rfl) Qg e2) ?_
   refine jl ?_
   refine al (x := (Vector.replicate 32 (0#8))) (R := Qb) (QA 32 QK) fun b3 => ?_
   refine jk (r' := x1) (ht rfl) (ht rfl) .here .a ?_
   refine Jn (t := 10) .here (.of_lk rfl) ?_
   refine Qd <| rs <| XB (H' := [box b2 23 Qb (Vector.replicate 32 (0#8)), box b1 23 Qb y3]) .h2 ?_
   refine rdL (n := 5) (H := [box b2 23 Qb (Vector.replicate 32 (0#8)), box b1 23 Qb y3]) (Ls := [⟨[], [(2, ⟨Nat, fun (b4 : Nat) => [box b4 23 Qb (Vector.replicate 32 (0#8))], fun (b4 : Nat) => [(11, val (.pointer (some ⟨b4, 0, none⟩)))]⟩), (4, ⟨Nat, fun (b4 : Nat) => [box b4 23 Qb y3], fun (b4 : Nat) => [(11, val (.pointer (some ⟨b4, 0, none⟩)))]⟩)]⟩, ⟨[], [(3, ⟨Nat, fun (b5 : Nat) => [box b5 23 Qb (Vector.replicate 32 (0#8))], fun (b5 : Nat) => [(12, val (.pointer (some ⟨b5, 0, none⟩)))]⟩)]⟩]) (.p (plb (ht rfl) (.next .here) .a) <| .p (plt (ht rfl)) <| .step 0 rfl .here (.inl rfl) (fun i => ⟨_, _, fun j => j, (qA (x := (Vector.replicate 32 (0#8))) (R := Qb) (QA 32 QK) (by kernel_rfl) rfl), fun _ => rfl, VY, Bu⟩) <| .step 1 rfl .here (.inl rfl) (fun i => ⟨_, _, fun j => j, (qA (x := (Vector.replicate 32 (0#8))) (R := Qb) (QA 32 QK) (by kernel_rfl) rfl), fun _ => rfl, VY, Bu⟩) <| .step 0 rfl (.next .here) (.inl rfl) (fun i => ⟨_, _, fun _ => i, (qC (r' := y3) (ht rfl) (ht rfl) .here .a (by kernel_rfl) rfl), fun _ => rfl, (QbD (s := any)), QhW⟩) <| .nil) ?_
   rintro b4 b5
   refine Ja (Γ' := [(1, i64.slot y1), (4, Qo Qz p_id), (6, val (.pointer (some ⟨b1, 0, none⟩))), (8, val (.pointer (some ⟨b2, 0, none⟩))), (10, Qo Qb x1), (11, val (.pointer (some ⟨b4, 0, none⟩))), (12, val (.pointer (some ⟨b5, 0, none⟩))), (13, (sl Qb).slot p_path), (14, i64.slot (p_path.length : Int)), (15, i64.slot y2), (20, Qb.slot x1)]) (H' := [box b4 23 Qb y3, box b5 23 Qb (Vector.replicate 32 (0#8)), box b2 23 Qb (Vector.replicate 32 (0#8)), box b1 23 Qb y3]) .k11 .h4 ?_
   refine jk (r' := x1) (ht rfl) (ht rfl) (.next .here) .a ?_
   refine Qd <| rs <| rs <| rt <| jm ?_
   refine jq (Bm (ht rfl) Qe (by decide)) ?_
   refine jq (ZL (ht rfl) Qe) ?_
   refine Qd ?_
   obtain ⟨⟨y4, y5⟩, e4, h⟩ := bs h
   refine KQ (ι := Unit) (Γ' := fun (_ : Unit) => [(1, i64.slot y1), (4, Qo Qz p_id), (6, val (.pointer (some ⟨b1, 0, none⟩))), (8, val (.pointer (some ⟨b2, 0, none⟩))), (11, val (.pointer (some ⟨b4, 0, none⟩))), (12, val (.pointer (some ⟨b5, 0, none⟩))), (13, (sl Qb).slot p_path), (14, i64.slot (p_path.length : Int)), (15, i64.slot y2)]) (H' := fun (_ : Unit) => [box b5 23 Qb y4, box b4 23 Qb y5, box b2 23 Qb (Vector.replicate 32 (0#8)), box b1 23 Qb y3]) ?_ fun J => ?_
   ·intro _
    clear e4
    show Run _ _ _ [(1, i64.slot y1), (4, Qo Qz p_id), (6, val (.pointer (some ⟨b1, 0, none⟩))), (8, val (.pointer (some ⟨b2, 0, none⟩))), (11, val (.pointer (some ⟨b4, 0, none⟩))), (12, val (.pointer (some ⟨b5, 0, none⟩))), (13, (sl Qb).slot p_path), (14, i64.slot (p_path.length : Int)), (15, i64.slot y2)] [box b5 23 Qb y4, box b4 23 Qb y5, box b2 23 Qb (Vector.replicate 32 (0#8)), box b1 23 Qb y3]
    refine rs <| rt <| jm ?_
    refine jq (qt (ht rfl) Qe (by decide)) ?_
    refine ja ?_
    refine Qd <| rt <| jl ?_
    refine jm ?_
    refine jq (plb (ht rfl) (.next .here) .a) ?_
    refine jq (plb (ht rfl) .here .a) ?_
    obtain ⟨r1, e5, h⟩ := bs h
    refine jq (pc tl4 (Qb1 hg1 hg2 e5)) ?_
    refine jk (r' := r1) (ht rfl) (ht rfl) (.next (.next (.next .here))) .a ?_
    refine Qd <| Qp <| rt <| jq (QS (ht rfl) Qe) ?_
    refine jm ?_
    refine Qd ?_
    obtain rfl := oi h
    exact Q0 () .k7 (.cons (.next (.next (.next .here))) <| .cons .here <| .nil)
   ·refine Qm (ht rfl) (fun e3 => ?_) (fun e3 => ?_)
    ·replace h := bt e3 e4
     refine XB (H' := [box b4 23 Qb y3, box b5 23 Qb x1, box b2 23 Qb (Vector.replicate 32 (0#8)), box b1 23 Qb y3]) (.cons (.next .here) <| .cons .here <| .cons .here <| .cons .here <| .nil) ?_
     refine rdL (n := 3) (H := [box b5 23 Qb x1, box b2 23 Qb (Vector.replicate 32 (0#8)), box b1 23 Qb y3]) (Ls := [⟨[box b4 23 Qb y3], [(2, ⟨Unit, fun (_ : Unit) => [box b4 23 Qb x1], fun (_ : Unit) => []⟩)]⟩]) (.p (plt (ht rfl)) <| .p (plb (ht rfl) (.next (.next .here)) .a) <| .step 0 rfl .here (.inl rfl) (fun i => ⟨_, _, fun _ => (), (qC (r' := x1) (ht rfl) (ht rfl) .here .a (by kernel_rfl) rfl), fun _ => rfl, (QbD (s := any)), QhW⟩) <| .nil) ?_
     rintro _
     refine Ja (Γ' := [(1, i64.slot y1), (4, Qo Qz p_id), (6, val (.pointer (some ⟨b1, 0, none⟩))), (8, val (.pointer (some ⟨b2, 0, none⟩))), (11, val (.pointer (some ⟨b4, 0, none⟩))), (12, val (.pointer (some ⟨b5, 0, none⟩))), (13, (sl Qb).slot p_path), (14, i64.slot (p_path.length : Int)), (15, i64.slot y2), (25, Qb.slot y3)]) (H' := [box b4 23 Qb x1, box b5 23 Qb x1, box b2 23 Qb (Vector.replicate 32 (0#8)), box b1 23 Qb y3]) .k10 .h4 ?_
     refine jk (r' := y3) (ht rfl) (ht rfl) (.next .here) .a ?_
     refine Qd ?_
     obtain ⟨rfl, rfl⟩ := Prod.mk.inj (oi h)
     exact Q7 .k9 .h4 (J ())
    ·replace h := bf e3 e4
     refine Qk ?_
     obtain ⟨rfl, rfl⟩ := Prod.mk.inj (oi h)
     exact Q7 .k9 .h4 (J ())
  ·replace h := bf e1 h
   obtain rfl := oi h
   exact Je () .k7 .h2
 ·rintro _
  show Run _ _ _ [(1, i64.slot y6), (4, Qo Qz p_id), (6, val (.pointer (some ⟨b1, 0, none⟩))), (8, val (.pointer (some ⟨b2, 0, none⟩))), (13, (sl Qb).slot p_path), (14, i64.slot (p_path.length : Int)), (15, i64.slot y7)] [box b2 23 Qb (Vector.replicate 32 (0#8)), box b1 23 Qb y8]
  refine Q7 (Γ' := [(6, val (.pointer (some ⟨b1, 0, none⟩))), (8, val (.pointer (some ⟨b2, 0, none⟩)))]) (H' := [box b2 23 Qb (Vector.replicate 32 (0#8)), box b1 23 Qb y8]) .k2 .h2 ?_
  refine rs <| rt <| jq (plb (ht rfl) (.next .here) .a) ?_
  refine jk (r' := y8) (ht rfl) (ht rfl) .here .a ?_
  refine Qd ?_
  obtain rfl := oi h
  exact Qj fun a w hst => QE hst rfl (.cell rfl .here (by kernel_rfl)) () (fun _ _ h => h) (.nil)
theorem W0 {G : GP} {p_s1 : List (BitVec 8)} {p_s2 : List (BitVec 8)} {r : Bool} (h : Yw p_s1 p_s2 = some r) : Ctr Tryz.prog G 146 [(sl u8).slot p_s1, (sl u8).slot p_s2] [] (fun (_ : Unit) => bl.slot r) (fun (_ : Unit) => []) := by
 unfold Yw at h
 refine Ql Tryz.func146 rfl 26 rfl rfl fun m0 w0 b0 => ?_
 refine K3 fun Qf hq1 hq2 => ?_
 show Run _ _ _ [(0, (sl u8).slot p_s1), (1, (sl u8).slot p_s2)] _
 refine rs <| rt <| jq (pa QQ) ?_
 refine Qd <| rs <| rs <| rt <| jm ?_
 refine jq (QR (sz := 1) (ht rfl) (by kernel_rfl)) ?_
 refine jm ?_
 refine jq (QR (sz := 1) (ht rfl) (by kernel_rfl)) ?_
 refine jq (Yt (ht rfl) (ht rfl)) ?_
 refine Qd <| Qm (ht rfl) (fun e1 => ?_) (fun e1 => ?_)
 ·replace h := bt e1 h
  refine rs <| rt <| jq (pa QQ) ?_
  refine Qd ?_
  obtain rfl := oi h
  exact Qj fun a w hst => QE hst rfl (.tmp rfl) () (fun _ _ h => h) (.nil)
 ·replace h := bf e1 h
  refine Qk <| rs <| rs <| rt <| jm ?_
  refine jq (QR (sz := 1) (ht rfl) (by kernel_rfl)) ?_
  refine jq (pm Qe) ?_
  refine Qd ?_
  obtain ⟨o, e6, h⟩ := bs h
  refine V5 (Γi := fun (i : Unit) (s : Int) => [(0, (sl u8).slot p_s1), (1, (sl u8).slot p_s2), (12, i64.slot (p_s1.length : Int)), (13, i64.slot s)]) (Hi := fun (i : Unit) (s : Int) => []) (R := fun x a w => x = r → Qf a w) e6 () (fun a w hst => (hst.sub .k4).keep (.nil)) ?_ ?_ ?_
  ·clear h e6
   rintro _ y1 lr h
   change Zq p_s1 p_s2 y1 = some _ at h
   show Run _ _ _ [(0, (sl u8).slot p_s1), (1, (sl u8).slot p_s2), (12, i64.slot (p_s1.length : Int)), (13, i64.slot y1)] []
   unfold Zq at h
   refine rs <| rt <| jq (Q5 (ht rfl) (ht rfl)) ?_
   refine Qd <| rs <| Qm (ht rfl) (fun e2 => ?_) (fun e2 => ?_)
   ·replace h := bt e2 h
    refine Qk <| rs <| QH <| rs <| rt <| jm ?_
    refine ja ?_
    refine Qd <| rs ?_
    obtain ⟨x1, e3, h⟩ := bs h
    obtain ⟨x2, e4, h⟩ := bs h
    refine rd (n := 8) (.m rfl <| .m rfl <| .p (pix (ht rfl) (ht rfl) Qg e3) <| .p (plt (ht rfl)) <| .m rfl <| .m rfl <| .p (pix (ht rfl) (ht rfl) Qg e4) <| .p (plt (ht rfl)) <| .nil) (Ja (Γ' := [(0, (sl u8).slot p_s1), (1, (sl u8).slot p_s2), (12, i64.slot (p_s1.length : Int)), (13, i64.slot y1), (19, u8.slot x1), (23, u8.slot x2)]) (H' := []) .k6 (.nil) ?_)
    refine jq (Qcu (k := .u8) (b := 8) (ht rfl) (ht rfl)) ?_
    refine Qd <| Qm (ht rfl) (fun e5 => ?_) (fun e5 => ?_)
    ·replace h := bt e5 h
     refine rs <| rt <| jq (pa QQ) ?_
     refine Qd ?_
     obtain rfl := oi h
     refine Qj fun a w hst => ⟨rfl, fun hr => ?_⟩
     subst hr
     exact hq2 a w (QE hst rfl (.tmp rfl) () (fun _ _ h => h) (.nil))
    ·replace h := bf e5 h
     refine Qk <| Qp <| rt <| jq (QS (ht rfl) Qe) ?_
     refine jm ?_
     refine Qd ?_
     obtain rfl := oi h
     exact Q0 () .k4 (.nil)
   ·replace h := bf e2 h
    obtain rfl := oi h
    exact Je () .k4 (.nil)
  ·rintro _ y2 ho
   subst ho
   show Run _ _ _ [(0, (sl u8).slot p_s1), (1, (sl u8).slot p_s2), (12, i64.slot (p_s1.length : Int)), (13, i64.slot y2)] []
   refine Q7 (Γ' := []) (H' := []) (.nil) (.nil) ?_
   refine rs <| rt <| jq (pa QQ) ?_
   refine Qd ?_
   obtain rfl := oi h
   exact Qj fun a w hst => QE hst rfl (.tmp rfl) () (fun _ _ h => h) (.nil)
  ·intro x a w ho hR
   subst ho
   exact hq1 a w (hR (oi h))
theorem QaV {G : GP} (hg0 : HG0 G) (hg1 : HG1 G) (hg2 : HG2 G) {p_public : List (BitVec 8)} {p_message : List (BitVec 8)} {p_sig : List (BitVec 8)} {r : Bool} (h : Ur p_public p_message p_sig = some r) : Ctr Tryz.prog G 99 [(sl u8).slot p_public, (sl u8).slot p_message, (sl u8).slot p_sig] [] (fun (_ : Unit) => bl.slot r) (fun (_ : Unit) => []) := by
 unfold Ur at h
 refine Ql Tryz.func99 rfl 77 rfl rfl fun m0 w0 b0 => ?_
 show Run _ _ _ [(0, (sl u8).slot p_public), (1, (sl u8).slot p_message), (2, (sl u8).slot p_sig)] _
 refine rs <| rt <| jq (pa QQ) ?_
 refine Qd <| rs <| rs <| rt <| jm ?_
 refine jq (QR (sz := 1) (ht rfl) (by kernel_rfl)) ?_
 refine jq (Yt (ht rfl) Qe) ?_
 refine Qd <| Qm (ht rfl) (fun e1 => ?_) (fun e1 => ?_)
 ·replace h := bt e1 h
  refine rs <| rt <| jq (pa QQ) ?_
  refine Qd ?_
  obtain rfl := oi h
  exact Qj fun a w hst => QE hst rfl (.tmp rfl) () (fun _ _ h => h) (.nil)
 ·replace h := bf e1 h
  refine Qk <| rs <| rt <| jm ?_
  obtain ⟨r1, e2, h⟩ := bs h
  refine jc tl1 (Um e2) .nil fun b1 => ?_
  refine ja ?_
  refine Qd <| rs <| rt <| jm ?_
  obtain ⟨r2, e3, h⟩ := bs h
  refine jc tl1 (Zn e3) .h1 fun _ => ?_
  refine jq (YV (by decide) (by kernel_rfl) (ht rfl)) ?_
  refine jm ?_
  obtain ⟨r3, e4, h⟩ := bs h
  refine jc tl1 (Zn e4) .h1 fun _ => ?_
  refine jq (YV (by decide) (by kernel_rfl) (ht rfl)) ?_
  refine ja ?_
  refine ja ?_
  refine Qd <| rs ?_
  obtain ⟨r4, e5, h⟩ := bs h
  obtain ⟨x1, e6, h⟩ := bs h
  obtain ⟨r5, e7, h⟩ := bs h
  refine XB (H' := [box b1 208 (prod (sl u8) bl) (r3.1.1, r3.1.2)]) .h1 ?_
  refine rdL (n := 7) (H := []) (Ls := [⟨[box b1 208 (prod (sl u8) bl) (r3.1.1, r3.1.2)], [(1, ⟨Unit, fun (_ : Unit) => [box b1 208 (prod (sl u8) bl) (r4.1.1, r4.1.2)], fun (_ : Unit) => [(29, (sl u8).slot r4.2)]⟩), (5, ⟨Unit, fun (_ : Unit) => [box b1 208 (prod (sl u8) bl) (r5.1.1, r5.1.2)], fun (_ : Unit) => [(33, (sl u8).slot r5.2), (29, (sl u8).slot r4.2)]⟩)]⟩, ⟨[], [(6, ⟨Nat, fun (b2 : Nat) => [box b2 95 Qz (Vector.replicate 16 (0#8))], fun (b2 : Nat) => [(10, val (.pointer (some ⟨b2, 0, none⟩)))]⟩)]⟩]) (.m rfl <| .step 0 rfl .here (.inl rfl) (fun i => ⟨_, _, fun _ => (), (wc (hc (ht rfl) <| hc Qe <| Q1) (Zd e5) .h1), fun _ => rfl, QdB, Bu⟩) <| .p (QaB (e := 5) (ht rfl) e6 rfl (by kernel_rfl)) <| .p (plt (ht rfl)) <| .m rfl <| .step 0 rfl (.next .here) (.inl rfl) (fun i => ⟨_, _, fun _ => (), (wc (hc (ht rfl) <| hc Qe <| Q1) (Zd e7) .h1), fun _ => rfl, QdB, Bu⟩) <| .step 1 rfl .here (.inl rfl) (fun i => ⟨_, _, fun j => j, (qA (x := (Vector.replicate 16 (0#8))) (R := Qz) (QA 16 QK) (by kernel_rfl) rfl), fun _ => rfl, VY, Bu⟩) <| .nil) ?_
  rintro _ b2
  refine Ja (Γ' := [(1, (sl u8).slot p_message), (2, (sl u8).slot p_sig), (8, i64.slot (r2.2.toNat : Int)), (9, i64.slot (r3.2.toNat : Int)), (10, val (.pointer (some ⟨b2, 0, none⟩))), (31, Qz.slot x1), (33, (sl u8).slot r5.2)]) (H' := [box b2 95 Qz (Vector.replicate 16 (0#8))]) .k7 (.cons (.next .here) <| .nil) ?_
  refine jk (r' := x1) (ht rfl) (ht rfl) .here .a ?_
  refine Jn (t := 10) .here (.of_lk rfl) ?_
  refine ja ?_
  refine Qd <| rs <| rs <| rt <| jm ?_
  refine jm ?_
  obtain ⟨r6, e8, h⟩ := bs h
  refine jq (pc tl2 (QbQ hg0 e8)) ?_
  refine jq (ZG (ht rfl)) ?_
  refine Qd <| Qm (ht rfl) (fun e9 => ?_) (fun e9 => ?_)
  ·replace h := bt e9 h
   refine rs <| rt <| jq (pa QQ) ?_
   refine Qd ?_
   obtain rfl := oi h
   exact Qj fun a w hst => QE hst rfl (.tmp rfl) () (fun _ _ h => h) (.nil)
  ·replace h := bf e9 h
   refine Qk <| rs <| rt <| jm ?_
   refine jm ?_
   refine jm ?_
   obtain ⟨r7, e10, h⟩ := bs h
   refine jq (pc tl3 (QeL hg0 e10)) ?_
   refine jm ?_
   refine jx ?_
   refine jx ?_
   refine al (x := (0, ([] : List (BitVec 8)), ([] : List Qa))) (R := QY) (Qn QG (Qn J7 J7)) fun b3 => ?_
   refine jk (r' := r7.1) (ht rfl) (ht rfl) .here .a ?_
   refine Jn (t := 12) .here (.of_lk rfl) ?_
   refine ja ?_
   refine Qd <| rs <| rs <| rt <| jm ?_
   refine jq (ZG (ht rfl)) ?_
   refine Qd <| Qm (ht rfl) (fun e11 => ?_) (fun e11 => ?_)
   ·replace h := bt e11 h
    refine rs <| rt <| jq (pa QQ) ?_
    refine Qd ?_
    obtain rfl := oi h
    exact Qj fun a w hst => QE hst rfl (.tmp rfl) () (fun _ _ h => h) (.nil)
   ·replace h := bf e11 h
    refine Qk <| rs <| rt <| jl ?_
    refine jq (pft (ht rfl) .f) ?_
    refine jl ?_
    refine jq (Jp (k := .u32) (b := 32) rfl rfl (by kernel_rfl) (ht rfl) Qg) ?_
    refine jm ?_
    refine jq (pft (ht rfl) (.t .s .f)) ?_
    refine jl ?_
    obtain ⟨r8, e12, h⟩ := bs h
    refine jq (pc tl4 (Qce hg0 hg1 hg2 e12)) ?_
    refine jm ?_
    refine jx ?_
    refine jx ?_
    refine al (x := (Vector.replicate 32 (0#8))) (R := Qb) (QA 32 QK) fun b4 => ?_
    refine jk (r' := r8.1) (ht rfl) (ht rfl) .here .a ?_
    refine Jn (t := 14) .here (.of_lk rfl) ?_
    refine ja ?_
    refine Qd <| rs <| rs <| rt <| jm ?_
    refine jq (ZG (ht rfl)) ?_
    refine Qd <| Qm (ht rfl) (fun e13 => ?_) (fun e13 => ?_)
    ·replace h := bt e13 h
     refine rs <| rt <| jq (pa QQ) ?_
     refine Qd ?_
     obtain rfl := oi h
     exact Qj fun a w hst => QE hst rfl (.tmp rfl) () (fun _ _ h => h) (.nil)
    ·replace h := bf e13 h
     refine Qk <| rs ?_
     obtain ⟨e14, h⟩ := QD h
     refine rd (n := 4) (.m rfl <| .p (KU Qe (ht rfl) Qg e14) <| .p (pft (ht rfl) .f) <| .p (plt (ht rfl)) <| .nil) (Ja (Γ' := [(10, Qo Qz x1), (11, (sl u8).slot r5.2), (12, Qo QY r7.1), (14, Qo Qb r8.1), (61, i64.slot (XG (1 : Int) (r2.2.toNat : Int))), (63, i64.slot r7.1.1)]) (H' := []) .k6 (.nil) ?_)
     refine jq (QS (ht rfl) (ht rfl)) ?_
     obtain ⟨x2, e15, h⟩ := bs h
     refine jq (PJ.eqv (pa (ht rfl)) (oi e15)) ?_
     refine Qd <| rs ?_
     obtain ⟨r9, e16, h⟩ := bs h
     obtain ⟨r10, e17, h⟩ := bs h
     refine XB (H' := []) (.nil) ?_
     refine rdL (n := 10) (H := []) (Ls := [⟨[], [(9, ⟨Nat, fun (b5 : Nat) => [box b5 23 Qb (Vector.replicate 32 (0#8))], fun (b5 : Nat) => [(16, val (.pointer (some ⟨b5, 0, none⟩)))]⟩)]⟩]) (.p (plt (ht rfl)) <| .m rfl <| .p (plt (ht rfl)) <| .m rfl <| .p (plt (ht rfl)) <| .p (pc tl3 (Qc6 hg1 hg2 e16)) <| .p (pft (ht rfl) (.t .s .s)) <| .p (plt (ht rfl)) <| .p (pc tl4 (Qf8 hg1 hg2 e17)) <| .step 0 rfl .here (.inl rfl) (fun i => ⟨_, _, fun j => j, (qA (x := (Vector.replicate 32 (0#8))) (R := Qb) (QA 32 QK) (by kernel_rfl) rfl), fun _ => rfl, VY, Bu⟩) <| .nil) ?_
     rintro b5
     refine Ja (Γ' := [(11, (sl u8).slot r5.2), (16, val (.pointer (some ⟨b5, 0, none⟩))), (73, Qb.slot r10)]) (H' := [box b5 23 Qb (Vector.replicate 32 (0#8))]) .k3 .h1 ?_
     refine jk (r' := r10) (ht rfl) (ht rfl) .here .a ?_
     refine Jn (t := 16) .here (.of_lk rfl) ?_
     refine Qd <| rs <| rt <| jq (JA (ht rfl) (by decide) (by kernel_rfl)) ?_
     refine jm ?_
     obtain ⟨r11, e18, h⟩ := bs h
     refine jq (pc tl2 (W0 e18)) ?_
     refine ja ?_
     refine Qd ?_
     obtain rfl := oi h
     exact Qj fun a w hst => QE hst rfl (.tmp rfl) () (fun _ _ h => h) (.nil)
theorem Qew {G : GP} (hg0 : HG0 G) (hg1 : HG1 G) (hg2 : HG2 G) {p_public : List (BitVec 8)} {p_message : List (BitVec 8)} {p_signature : List (BitVec 8)} {r : Bool} (h : Wz p_public p_message p_signature = some r) : Ctr Tryz.prog G 53 [(sl u8).slot p_public, (sl u8).slot p_message, (sl u8).slot p_signature] [] (fun (_ : Unit) => bl.slot r) (fun (_ : Unit) => []) := by
 unfold Wz at h
 refine Ql Tryz.func53 rfl 60 rfl rfl fun m0 w0 b0 => ?_
 show Run _ _ _ [(0, (sl u8).slot p_public), (1, (sl u8).slot p_message), (2, (sl u8).slot p_signature)] _
 refine rs <| rt <| jq (pa QQ) ?_
 refine Qd <| rs <| rs <| rt <| jm ?_
 refine jq (QR (sz := 1) (ht rfl) (by kernel_rfl)) ?_
 refine jq (Yt (ht rfl) Qe) ?_
 refine Qd <| Qm (ht rfl) (fun e1 => ?_) (fun e1 => ?_)
 ·replace h := bt e1 h
  refine rs <| rt <| jq (pa QQ) ?_
  refine Qd ?_
  obtain rfl := oi h
  exact Qj fun a w hst => QE hst rfl (.tmp rfl) () (fun _ _ h => h) (.nil)
 ·replace h := bf e1 h
  refine Qk <| rs <| rt <| jm ?_
  obtain ⟨r1, e2, h⟩ := bs h
  refine jc tl1 (Um e2) .nil fun b1 => ?_
  refine ja ?_
  refine Qd <| rs <| rs <| rt <| jm ?_
  obtain ⟨r2, e3, h⟩ := bs h
  refine jc tl1 (Zn e3) .h1 fun _ => ?_
  refine jq (Qcu (k := .u32) (b := 32) (ht rfl) (Qy (x := 2#32) rfl)) ?_
  refine Qd <| Qm (ht rfl) (fun e4 => ?_) (fun e4 => ?_)
  ·replace h := bt e4 h
   refine rs <| rt <| jq (pa QQ) ?_
   refine Qd ?_
   obtain rfl := oi h
   exact Qj fun a w hst => QE hst rfl (.tmp rfl) () (fun _ _ h => h) (.nil)
  ·replace h := bf e4 h
   refine Qk <| rs <| rt <| jm ?_
   obtain ⟨r3, e5, h⟩ := bs h
   refine jc tl1 (Zn e5) .h1 fun _ => ?_
   refine jq (YV (by decide) (by kernel_rfl) (ht rfl)) ?_
   refine jm ?_
   obtain ⟨r4, e6, h⟩ := bs h
   refine jc tl1 (Zn e6) .h1 fun _ => ?_
   refine jq (YV (by decide) (by kernel_rfl) (ht rfl)) ?_
   refine ja ?_
   refine ja ?_
   refine Qd <| rs <| rt <| jm ?_
   obtain ⟨r5, e7, h⟩ := bs h
   refine jc tl1 (Um e7) .nil fun b2 => ?_
   refine ja ?_
   refine Qd <| rs <| rs <| rt <| jm ?_
   obtain ⟨r6, e8, h⟩ := bs h
   refine jc tl1 (Zn e8) .h1 fun _ => ?_
   refine jq (Qcu (k := .u32) (b := 32) (ht rfl) (Qy (x := 1#32) rfl)) ?_
   refine Qd <| Qm (ht rfl) (fun e9 => ?_) (fun e9 => ?_)
   ·replace h := bt e9 h
    refine rs <| rt <| jq (pa QQ) ?_
    refine Qd ?_
    obtain rfl := oi h
    exact Qj fun a w hst => QE hst rfl (.tmp rfl) () (fun _ _ h => h) (.nil)
   ·replace h := bf e9 h
    refine Qk <| rs <| rt <| jm ?_
    refine jm ?_
    refine jm ?_
    obtain ⟨r7, e10, h⟩ := bs h
    refine jq (pc tl2 (Qag hg0 e10)) ?_
    obtain ⟨r8, e11, h⟩ := bs h
    refine jc tl2 (Zd e11) .h1 fun _ => ?_
    refine ja ?_
    refine Qd <| rs <| rt <| jm ?_
    obtain ⟨r9, e12, h⟩ := bs h
    refine jc (hc (ht rfl) <| hc Qe <| Q1) (Zd e12) .h1 fun _ => ?_
    refine ja ?_
    refine Qd <| rs <| rt <| jm ?_
    refine jm ?_
    obtain ⟨r10, e13, h⟩ := bs h
    refine jq (VF tl1 .here (by kernel_rfl) (fun _ => (Wp e13))) ?_
    obtain ⟨r11, e14, h⟩ := bs h
    refine jc tl2 (Zd e14) .h1 fun _ => ?_
    refine ja ?_
    refine Qd <| rs <| rt <| jm ?_
    obtain ⟨r12, e15, h⟩ := bs h
    refine jq (VF tl1 .here (by kernel_rfl) (fun _ => (UX e15))) ?_
    refine jq (ZG (ht rfl)) ?_
    refine jm ?_
    obtain ⟨y1, e17, h⟩ := bs h
    refine Ju (ι := Unit) (Γ' := fun _ => [(1, (sl u8).slot p_message), (12, (sl u8).slot r9.2), (13, (sl u8).slot r11.2), (53, bl.slot y1)]) (H' := fun _ => []) 6 ?_ fun J => ?_
    ·intro _
     clear e17
     show Jc _ _ _ [(1, (sl u8).slot p_message), (12, (sl u8).slot r9.2), (13, (sl u8).slot r11.2), (53, bl.slot y1)] [] _
     refine jm ?_
     obtain ⟨y2, e21, h⟩ := bs h
     refine Ju (ι := Unit) (Γ' := fun _ => [(59, bl.slot y2)]) (H' := fun _ => []) 5 ?_ fun J => ?_
     ·intro _
      clear e21
      show Jc _ _ _ [(59, bl.slot y2)] [] _
      refine ja ?_
      refine Qd ?_
      obtain rfl := oi h
      exact Qj fun a w hst => QE hst rfl (.tmp rfl) () (fun _ _ h => h) (.nil)
     ·rcases Jj (y1) with e20 | e20
      ·replace e21 := bt e20 e21
       refine jz (pm (ht rfl)) e20 ?_
       refine jz (pm (ht rfl)) e20 ?_
       refine jz (pm (ht rfl)) e20 ?_
       obtain ⟨r14, e22, e21⟩ := bind_some e21
       refine jz (pc tl3 (QaV hg0 hg1 hg2 e22)) e20 ?_
       refine jq (pk1 e20 (ht rfl) (oi e21)) ?_
       exact Ja .k1 (.nil) (J ())
      ·replace e21 := bf e20 e21
       refine jn e20 ?_
       refine jn e20 ?_
       refine jn e20 ?_
       refine jn e20 ?_
       refine jq (pk2 e20 QQ (oi e21)) ?_
       exact Ja .k1 (.nil) (J ())
    ·rcases Jj (!r12) with e16 | e16
     ·replace e17 := bt e16 e17
      refine jz (pm (ht rfl)) e16 ?_
      obtain ⟨x1, e18, e17⟩ := bind_some e17
      refine jz (JN (ht rfl) (.yes Qe Qg) .no e18 (by kernel_rfl)) e16 ?_
      refine jz (pm (ht rfl)) e16 ?_
      refine jz (pm (ht rfl)) e16 ?_
      obtain ⟨r13, e19, e17⟩ := bind_some e17
      refine jz (pc tl3 (QaV hg0 hg1 hg2 e19)) e16 ?_
      refine jq (pk1 e16 (ht rfl) (oi e17)) ?_
      exact Ja .k4 (.nil) (J ())
     ·replace e17 := bf e16 e17
      refine jn e16 ?_
      refine jn e16 ?_
      refine jn e16 ?_
      refine jn e16 ?_
      refine jn e16 ?_
      refine jq (pk2 e16 QQ (oi e17)) ?_
      exact Ja .k4 (.nil) (J ())
theorem Qek {G : GP} (hg0 : HG0 G) (hg1 : HG1 G) (hg2 : HG2 G) {p_s : QB} {p_public : List (BitVec 8)} {r : Bool} (h : KF p_s p_public = some r) : Ctr Tryz.prog G 14 [Qh.slot p_s, (sl u8).slot p_public] [] (fun (_ : Unit) => bl.slot r) (fun (_ : Unit) => []) := by
 unfold KF at h
 refine Ql Tryz.func14 rfl 22 rfl rfl fun m0 w0 b0 => ?_
 show Run _ _ _ [(0, Qh.slot p_s), (1, (sl u8).slot p_public)] _
 refine rs <| rt <| jq (QW (ht rfl)) ?_
 refine jq (pa QQ) ?_
 refine Qd <| rs <| rt <| jq (pft (ht rfl) .f) ?_
 refine jl ?_
 obtain ⟨r1, e1, h⟩ := bs h
 refine jq (pc tl1 (Ctr.froze2 (qY e1))) ?_
 refine jm ?_
 refine jx ?_
 refine jx ?_
 refine ja ?_
 refine ja ?_
 refine Qd <| rs <| rt <| jm ?_
 refine jq (ZL (ht rfl) Qe) ?_
 refine jm ?_
 obtain ⟨y1, e3, h⟩ := bs h
 refine Ju (ι := Unit) (Γ' := fun _ => [(21, bl.slot y1)]) (H' := fun _ => []) 6 ?_ fun J => ?_
 ·intro _
  clear e3
  show Jc _ _ _ [(21, bl.slot y1)] [] _
  refine ja ?_
  refine Qd ?_
  obtain rfl := oi h
  exact Qj fun a w hst => QE hst rfl (.tmp rfl) () (fun _ _ h => h) (.nil)
 ·rcases Jj (decide (r1.2 = (0 : Int))) with e2 | e2
  ·replace e3 := bt e2 e3
   refine jz (pm (ht rfl)) e2 ?_
   refine jz (pm (ht rfl)) e2 ?_
   refine jz (pft (ht rfl) .s) e2 ?_
   refine jz (plt (ht rfl)) e2 ?_
   obtain ⟨r2, e4, e3⟩ := bind_some e3
   refine jz (pc tl3 (Qew hg0 hg1 hg2 e4)) e2 ?_
   refine jq (pk1 e2 (ht rfl) (oi e3)) ?_
   exact Ja .k1 (.nil) (J ())
  ·replace e3 := bf e2 e3
   refine jn e2 ?_
   refine jn e2 ?_
   refine jn e2 ?_
   refine jn e2 ?_
   refine jn e2 ?_
   refine jq (pk2 e2 QQ (oi e3)) ?_
   exact Ja .k1 (.nil) (J ())
theorem Uh {G : GP} {p_s : QB} {p_e : Int} {r : Int} (h : YL p_s p_e = some r) : Ctr Tryz.prog G 103 [Qh.slot p_s, i64.slot p_e] [] (fun (_ : Unit) => i64.slot r) (fun (_ : Unit) => []) := by
 unfold YL at h
 refine Ql Tryz.func103 rfl 10 rfl rfl fun m0 w0 b0 => ?_
 show Run _ _ _ [(0, Qh.slot p_s), (1, i64.slot p_e)] _
 refine rs <| rt <| jq (QW (ht rfl)) ?_
 refine jq (pa Qe) ?_
 refine Qd <| rs <| rt <| jq (pft (ht rfl) .f) ?_
 refine jq (pft (ht rfl) .f) ?_
 refine jl ?_
 refine jm ?_
 refine jq (JF (ht rfl) (ht rfl)) ?_
 refine ja ?_
 refine Qd ?_
 obtain rfl := oi h
 exact Qj fun a w hst => QE hst rfl (.tmp rfl) () (fun _ _ h => h) (.nil)
theorem ZV {G : GP} {p_x : List QB} {p_target : Int} {r : Int × Bool} (h : Q6 p_x p_target = some r) : Ctr Tryz.prog G 102 [(sl Qh).slot p_x, i64.slot p_target, fnS 103 []] [] (fun (_ : Unit) => tup [i64.slot r.1, bl.slot r.2]) (fun (_ : Unit) => []) := by
 unfold Q6 at h
 refine Ql Tryz.func102 rfl 49 rfl rfl fun m0 w0 b0 => ?_
 show Run _ _ _ [(0, (sl Qh).slot p_x), (1, i64.slot p_target), (2, fnS 103 [])] _
 refine rs <| rt <| jq (pa Qe) ?_
 refine jq (pa QQ) ?_
 refine Qd <| rs <| rt <| jm ?_
 refine jq (QR (sz := 67) (ht rfl) (by kernel_rfl)) ?_
 refine ja ?_
 refine Qd <| rs <| rt <| jm ?_
 refine jq (pa Qe) ?_
 refine ja ?_
 refine Qd <| rs ?_
 obtain ⟨⟨y3, y4⟩, e6, h⟩ := bs h
 refine Q2 (Γi := fun (i : Unit) (s : Int × Int) => [(0, (sl Qh).slot p_x), (1, i64.slot p_target), (2, fnS 103 []), (8, i64.slot (p_x.length : Int)), (9, i64.slot s.1), (10, i64.slot s.2)]) (Hi := fun (i : Unit) (s : Int × Int) => []) e6 () (fun a w hst => (hst.sub .k6).keep (.nil)) ?_ ?_
 ·clear h e6
  rintro _ ⟨y1, y2⟩ lr h
  change QM p_x p_target y1 y2 = some _ at h
  show Run _ _ _ [(0, (sl Qh).slot p_x), (1, i64.slot p_target), (2, fnS 103 []), (8, i64.slot (p_x.length : Int)), (9, i64.slot y1), (10, i64.slot y2)] []
  unfold QM at h
  refine rs <| rs <| rt <| jm ?_
  refine jm ?_
  refine jq (Q5 (ht rfl) (ht rfl)) ?_
  refine Qd <| Qm (ht rfl) (fun e1 => ?_) (fun e1 => ?_)
  ·replace h := bt e1 h
   refine Qk <| QH <| rs <| rt <| jm ?_
   refine jm ?_
   refine jq (QS (ht rfl) (ht rfl)) ?_
   refine jq (Jp (k := .u64) (b := 64) rfl rfl (by kernel_rfl) (ht rfl) Qg) ?_
   refine jq (Xo (k := .u64) (b := 64) rfl (ht rfl) (Qy (x := 1#64) rfl) JV (Int.natCast_nonneg _)) ?_
   refine jq (QbX (by kernel_rfl) (ht rfl) JV) ?_
   obtain ⟨x1, e2, h⟩ := bs h
   refine jq (PJ.eqv (pa (ht rfl)) (oi e2)) ?_
   refine Qd <| rs <| rt <| jm ?_
   refine jm ?_
   refine jm ?_
   obtain ⟨x2, e3, h⟩ := bs h
   refine jq (pix (ht rfl) (ht rfl) Qg e3) ?_
   refine jl ?_
   refine jm ?_
   obtain ⟨r1, e4, h⟩ := bs h
   refine jq (Qde (ht rfl) tl2 (by kernel_rfl) (Uh e4)) ?_
   refine jq (Q5 (ht rfl) Qe) ?_
   refine Qd <| Qm (ht rfl) (fun e5 => ?_) (fun e5 => ?_)
   ·replace h := bt e5 h
    refine rt <| jm ?_
    refine jq (QS (ht rfl) Qe) ?_
    refine ja ?_
    refine Qd <| Qp ?_
    obtain rfl := oi h
    exact Q0 () .k6 (.nil)
   ·replace h := bf e5 h
    refine rt <| jm ?_
    refine ja ?_
    refine Qd <| Qp ?_
    obtain rfl := oi h
    exact Q0 () .k6 (.nil)
  ·replace h := bf e1 h
   obtain rfl := oi h
   exact Je () .k6 (.nil)
 ·rintro _
  show Run _ _ _ [(0, (sl Qh).slot p_x), (1, i64.slot p_target), (2, fnS 103 []), (8, i64.slot (p_x.length : Int)), (9, i64.slot y3), (10, i64.slot y4)] []
  refine Q7 (Γ' := [(0, (sl Qh).slot p_x), (1, i64.slot p_target), (2, fnS 103 []), (8, i64.slot (p_x.length : Int)), (9, i64.slot y3)]) (H' := []) .k5 (.nil) ?_
  refine rs <| rt <| jm ?_
  refine jm ?_
  refine jm ?_
  refine jq (Q5 (ht rfl) (ht rfl)) ?_
  refine jm ?_
  obtain ⟨y5, e8, h⟩ := bs h
  refine Ju (ι := Unit) (Γ' := fun _ => [(35, i64.slot y3), (48, bl.slot y5)]) (H' := fun _ => []) 9 ?_ fun J => ?_
  ·intro _
   clear e8
   show Jc _ _ _ [(35, i64.slot y3), (48, bl.slot y5)] [] _
   refine ja ?_
   refine ja ?_
   refine Qd ?_
   obtain rfl := oi h
   exact Qj fun a w hst => JX hst rfl (.cons (.tmp rfl) <| .cons (.tmp rfl) <| .nil) rfl () (fun _ _ h => h) (.nil)
  ·rcases Jj (decide (y3 < (p_x.length : Int))) with e7 | e7
   ·replace e8 := bt e7 e8
    refine jz (pm (ht rfl)) e7 ?_
    refine jz (pm (ht rfl)) e7 ?_
    refine jz (pm (ht rfl)) e7 ?_
    obtain ⟨x3, e9, e8⟩ := bind_some e8
    refine jz (pix (ht rfl) (ht rfl) Qg e9) e7 ?_
    refine jz (plt (ht rfl)) e7 ?_
    refine jz (pm (ht rfl)) e7 ?_
    obtain ⟨r2, e10, e8⟩ := bind_some e8
    refine jz (Qde (ht rfl) tl2 (by kernel_rfl) (Uh e10)) e7 ?_
    refine jz (ZL (ht rfl) Qe) e7 ?_
    refine jq (pk1 e7 (ht rfl) (oi e8)) ?_
    exact Ja .k2 (.nil) (J ())
   ·replace e8 := bf e7 e8
    refine jn e7 ?_
    refine jn e7 ?_
    refine jn e7 ?_
    refine jn e7 ?_
    refine jn e7 ?_
    refine jn e7 ?_
    refine jn e7 ?_
    refine jn e7 ?_
    refine jq (pk2 e7 QQ (oi e8)) ?_
    exact Ja .k2 (.nil) (J ())
theorem Xm {G : GP} {p_p : Option ZT} {p_e : Int} {r : Int × Bool} (h : JB p_p p_e = some r) : Ctr Tryz.prog G 58 [(ptr Jo).slot p_p, i64.slot p_e] [] (fun (_ : Unit) => tup [i64.slot r.1, bl.slot r.2]) (fun (_ : Unit) => []) := by
 unfold JB at h
 refine Ql Tryz.func58 rfl 14 rfl rfl fun m0 w0 b0 => ?_
 show Run _ _ _ [(0, (ptr Jo).slot p_p), (1, i64.slot p_e)] _
 refine rs <| rt <| jq (pa Qe) ?_
 refine jq (pa QQ) ?_
 refine Qd <| rs <| rt <| jm ?_
 obtain ⟨x1, e1, h⟩ := bs h
 refine jq (JY (ht rfl) e1) ?_
 refine jq (pft (ht rfl) (.t .s .f)) ?_
 refine jl ?_
 refine jm ?_
 obtain ⟨r1, e2, h⟩ := bs h
 refine jq (pc (hc (ht rfl) <| hc (ht rfl) <| hc QkK <| Q1) (ZV e2)) ?_
 refine jx ?_
 refine jx ?_
 refine ja ?_
 refine ja ?_
 refine Qd ?_
 obtain rfl := oi h
 exact Qj fun a w hst => JX hst rfl (.cons (.tmp rfl) <| .cons (.tmp rfl) <| .nil) rfl () (fun _ _ h => h) (.nil)
theorem Bo {G : GP} {p_f : Q8} {q_0 : Int} {r : Bool} (h : Kc p_f q_0 = some r) : Ctr Tryz.prog G 105 [Qv.slot p_f, Qo i64 q_0] [] (fun (_ : Unit) => bl.slot r) (fun (_ : Unit) => []) := by
 unfold Kc at h
 refine Ql Tryz.func105 rfl 10 rfl rfl fun m0 w0 b0 => ?_
 show Run _ _ _ [(0, Qv.slot p_f), (1, Qo i64 q_0)] _
 refine rs <| rt <| jq (QW (ht rfl)) ?_
 refine jq (pa QQ) ?_
 refine Qd <| rs <| rt <| jq (pft (ht rfl) .f) ?_
 refine jq (pft (ht rfl) .f) ?_
 refine jq (pft (ht rfl) .f) ?_
 refine jl ?_
 refine jl ?_
 refine jq (ZL (ht rfl) (ht rfl)) ?_
 refine ja ?_
 refine Qd ?_
 obtain rfl := oi h
 exact Qj fun a w hst => QE hst rfl (.tmp rfl) () (fun _ _ h => h) (.nil)
theorem Yv {G : GP} {p_s : List Q8} {k1_0 : Int} {r : Int} (h : JE p_s k1_0 = some r) : Ctr Tryz.prog G 147 [(sl Qv).slot p_s, fnS 105 [Qo i64 k1_0]] [] (fun (_ : Unit) => i64.slot r) (fun (_ : Unit) => []) := by
 unfold JE at h
 refine Ql Tryz.func147 rfl 19 rfl rfl fun m0 w0 b0 => ?_
 refine K3 fun Qf hq1 hq2 => ?_
 show Run _ _ _ [(0, (sl Qv).slot p_s), (1, fnS 105 [Qo i64 k1_0])] _
 refine rs <| rt <| jq (pa Qe) ?_
 refine Qd <| rs <| rs <| rt <| jm ?_
 refine jq (QR (sz := 134) (ht rfl) (by kernel_rfl)) ?_
 refine jq (pm Qe) ?_
 refine Qd ?_
 obtain ⟨o, e5, h⟩ := bs h
 refine V5 (Γi := fun (i : Unit) (s : Int) => [(0, (sl Qv).slot p_s), (1, fnS 105 [Qo i64 k1_0]), (7, i64.slot (p_s.length : Int)), (8, i64.slot s)]) (Hi := fun (i : Unit) (s : Int) => []) (R := fun x a w => x = r → Qf a w) e5 () (fun a w hst => (hst.sub .k4).keep (.nil)) ?_ ?_ ?_
 ·clear h e5
  rintro _ y1 lr h
  change Jv p_s k1_0 y1 = some _ at h
  show Run _ _ _ [(0, (sl Qv).slot p_s), (1, fnS 105 [Qo i64 k1_0]), (7, i64.slot (p_s.length : Int)), (8, i64.slot y1)] []
  unfold Jv at h
  refine rs <| rt <| jq (Q5 (ht rfl) (ht rfl)) ?_
  refine Qd <| rs <| Qm (ht rfl) (fun e1 => ?_) (fun e1 => ?_)
  ·replace h := bt e1 h
   refine Qk <| rs <| QH <| rs <| rt <| jm ?_
   refine ja ?_
   refine Qd <| rs <| rt <| jm ?_
   refine jm ?_
   refine jm ?_
   obtain ⟨x1, e2, h⟩ := bs h
   refine jq (pix (ht rfl) (ht rfl) Qg e2) ?_
   refine jl ?_
   obtain ⟨r1, e3, h⟩ := bs h
   refine jq (Qde (ht rfl) tl1 (by kernel_rfl) (Bo e3)) ?_
   refine Qd <| Qm (ht rfl) (fun e4 => ?_) (fun e4 => ?_)
   ·replace h := bt e4 h
    refine rs <| rt <| jm ?_
    refine ja ?_
    refine Qd ?_
    obtain rfl := oi h
    refine Qj fun a w hst => ⟨rfl, fun hr => ?_⟩
    subst hr
    exact hq2 a w (QE hst rfl (.tmp rfl) () (fun _ _ h => h) (.nil))
   ·replace h := bf e4 h
    refine Qk <| Qp <| rt <| jq (QS (ht rfl) Qe) ?_
    refine jm ?_
    refine Qd ?_
    obtain rfl := oi h
    exact Q0 () .k4 (.nil)
  ·replace h := bf e1 h
   obtain rfl := oi h
   exact Je () .k4 (.nil)
 ·rintro _ y2 ho
  subst ho
  show Run _ _ _ [(0, (sl Qv).slot p_s), (1, fnS 105 [Qo i64 k1_0]), (7, i64.slot (p_s.length : Int)), (8, i64.slot y2)] []
  refine Q7 (Γ' := []) (H' := []) (.nil) (.nil) ?_
  refine rs <| rt <| jq (pa Qe) ?_
  refine Qd ?_
  obtain rfl := oi h
  exact Qj fun a w hst => QE hst rfl (.tmp rfl) () (fun _ _ h => h) (.nil)
 ·intro x a w ho hR
  subst ho
  exact hq1 a w (hR (oi h))
theorem Yn {G : GP} {p_s : List Q8} {k1_0 : Int} {r : Bool} (h : Jw p_s k1_0 = some r) : Ctr Tryz.prog G 104 [(sl Qv).slot p_s, fnS 105 [Qo i64 k1_0]] [] (fun (_ : Unit) => bl.slot r) (fun (_ : Unit) => []) := by
 unfold Jw at h
 refine Ql Tryz.func104 rfl 9 rfl rfl fun m0 w0 b0 => ?_
 show Run _ _ _ [(0, (sl Qv).slot p_s), (1, fnS 105 [Qo i64 k1_0])] _
 refine rs <| rt <| jq (pa QQ) ?_
 refine Qd <| rs <| rt <| jm ?_
 refine jm ?_
 obtain ⟨r1, e1, h⟩ := bs h
 refine jq (pc tl2 (Yv e1)) ?_
 refine jq (Y1 (ht rfl) Qe) ?_
 refine ja ?_
 refine Qd ?_
 obtain rfl := oi h
 exact Qj fun a w hst => QE hst rfl (.tmp rfl) () (fun _ _ h => h) (.nil)
theorem qq {G : GP} {p_p : Option ZT} {p_e : Int} {r : Bool} (h : KJ p_p p_e = some r) : Ctr Tryz.prog G 59 [(ptr Jo).slot p_p, i64.slot p_e] [] (fun (_ : Unit) => bl.slot r) (fun (_ : Unit) => []) := by
 unfold KJ at h
 refine Ql Tryz.func59 rfl 11 rfl rfl fun m0 w0 b0 => ?_
 show Run _ _ _ [(0, (ptr Jo).slot p_p), (1, i64.slot p_e)] _
 refine rs <| rt <| jq (QW (ht rfl)) ?_
 refine jq (pa QQ) ?_
 refine Qd <| rs <| rt <| jm ?_
 obtain ⟨x1, e1, h⟩ := bs h
 refine jq (JY (ht rfl) e1) ?_
 refine jq (pft (ht rfl) (.t .s (.t .s .f))) ?_
 refine jl ?_
 refine jq (WQ tl1) ?_
 obtain ⟨r1, e2, h⟩ := bs h
 refine jq (pc tl2 (Yn e2)) ?_
 refine ja ?_
 refine Qd ?_
 obtain rfl := oi h
 exact Qj fun a w hst => QE hst rfl (.tmp rfl) () (fun _ _ h => h) (.nil)
theorem KB {G : GP} {p_s : QB} {r : QB} (h : Xt p_s = some r) : Ctr Tryz.prog G 60 [Qh.slot p_s] [] (fun (_ : Unit) => Qh.slot r) (fun (_ : Unit) => []) := by
 unfold Xt at h
 refine Ql Tryz.func60 rfl 8 rfl rfl fun m0 w0 b0 => ?_
 show Run _ _ _ [(0, Qh.slot p_s)] _
 refine rs <| rt <| BH (ht rfl) rfl fun b1 => ?_
 refine al (x := ((0, 0, (Vector.replicate 32 (0#8)), (Vector.replicate 32 (0#8))), ([] : List (BitVec 8)))) (R := Qh) (Qn (Qn QG (Qn QG (Qn (QA 32 QK) (QA 32 QK)))) J7) fun b2 => ?_
 refine Qd <| rs <| rt <| jq (pfp (off := 66) (ht rfl)) ?_
 refine jq (plb (ht rfl) (.next .here) (.t .a .s)) ?_
 obtain ⟨r1, e1, h⟩ := bs h
 refine jq (pc tl1 (Ctr.froze (YY e1))) ?_
 refine jq (pfp (off := 66) (ht rfl)) ?_
 refine jk (r' := (p_s.1, r1)) (ht rfl) (ht rfl) (.next .here) (.t .a .s) ?_
 refine Qd <| rs <| rt <| jq (plb (ht rfl) .here .a) ?_
 refine jk (r' := (p_s.1, r1)) (ht rfl) (ht rfl) (.next .here) .a ?_
 refine Qd ?_
 obtain rfl := oi h
 exact Qj fun a w hst => QE hst rfl (.cell rfl .here (by kernel_rfl)) () (fun _ _ h => h) (.nil)
theorem VZ {G : GP} {p_s : List QB} {p_i : Int} {p_v : List QB} {v_s v_v : Value} {r : List QB} (h : ZX p_s p_i p_v = some r) :
  Ctr Tryz.prog G 61 [ov v_s, i64.slot p_i, ov v_v] [own 33 Qh v_s p_s, own 33 Qh v_v p_v] (fun (u0 : Value) => ov u0) (fun (u0 : Value) => [own 33 Qh u0 r]) := by
 obtain ⟨i, y, rfl, hi, rfl, hn, hr⟩ := Qi2 h
 clear h
 have w1 : w64 ((p_s.length : Int) + 1) = ((p_s.length + 1 : Nat) : Int) := Jr (by omega)
 have w2 : w64 ((i : Int) + 1) = ((i + 1 : Nat) : Int) := Jr (by omega)
 have w3 : w64 (((p_s.length + 1 : Nat) : Int) - (i : Int)) = ((p_s.length + 1 - i : Nat) : Int) := by rw [Jr (by omega)]; omega
 refine Ql Tryz.func61 rfl 95 rfl rfl fun m0 w0 b0 => ?_
 show Run _ _ _ [(0, ov v_s), (1, i64.slot (i : Int)), (2, ov v_v)] _
 refine rs <| rt <| QC (T := 33) Qh rfl fun v1 => ?_
 refine Qd <| rs <| rt <| jm ?_
 refine jm ?_
 refine jq (QbM (sz := 67) (ht rfl) (.next .here) (ht rfl) Qg (by omega) (by omega) (by kernel_rfl)) ?_
 refine Qd <| rs <| rt <| jm ?_
 refine jq (PJ.eqv (y := (1 : Int)) (Xc (sz := 67) (ht rfl) (.next (.next .here)) (by kernel_rfl)) rfl) ?_
 refine ja ?_
 refine Qd <| rs <| rs <| rt <| jm ?_
 refine jq (ZL (ht rfl) Qe) ?_
 refine Qd <| YB (ht rfl) rfl ?_
 refine Qk <| rs <| rt <| jm ?_
 refine jq (Xc (sz := 67) (ht rfl) (.next .here) (by kernel_rfl)) ?_
 refine ja ?_
 refine Qd <| rs <| rs <| rt <| jm ?_
 refine jm ?_
 refine jq (ZL (ht rfl) (ht rfl)) ?_
 refine Qd <| Qm (ht rfl) (fun e5 => ?_) (fun e5 => ?_)
 ·have e6 : i = p_s.length := by have := of_decide_eq_true e5; omega
  subst e6
  have e7 : r = p_s ++ [y] := by rw [hr]; simp
  subst e7
  refine rs <| rt <| jm ?_
  refine jm ?_
  refine Jg (T := 33) (E := 33) (ht rfl) (.next .here) (QkL (ht rfl) (.next (.next .here))) (by kernel_rfl) (by kernel_rfl) (by simp; omega) rfl fun v2 => ?_
  refine ja ?_
  exact Qd <| Qj fun a w hst => QE hst rfl (.tmp rfl) v2 (fun _ _ h => h) .h1
 ·have e6 : i < p_s.length := by have := of_decide_eq_false e5; omega
  have hne : p_s ≠ [] := by intro h; rw [h] at e6; simp at e6
  refine Qk <| rs <| rs <| rt <| QdN (.next .here) hne fun b n1 hv1 => ?_
  subst hv1
  refine QdN (.next (.next .here)) (by simp) fun b2 n2 hv2 => ?_
  subst hv2
  refine jm ?_
  refine jm ?_
  refine jq (PJ.eqv (QS (ht rfl) (ht rfl)) w1) ?_
  refine jm ?_
  refine jq (Qax (sz := 67) (KG (ht rfl)) (by kernel_rfl)) ?_
  refine jq (Vd (ht rfl) (ht rfl)) ?_
  refine Qd <| Qm (ht rfl) (fun e8 => ?_) (fun e8 => ?_)
  ·have e9 : p_s.length + n1 < p_s.length + 1 := by have := of_decide_eq_true e8; omega
   refine rs <| rt <| jm ?_
   refine jm ?_
   refine jq (Y2 (sz := 67) (KG (ht rfl)) .no (.yes (ht rfl) Qg) 0 i rfl rfl (by omega) (by omega) (by omega) (by kernel_rfl)) ?_
   refine jm ?_
   refine jm ?_
   refine jq (PJ.eqv (QS (ht rfl) (ht rfl)) w1) ?_
   refine jm ?_
   refine jq (PJ.eqv (JF (ht rfl) (ht rfl)) w3) ?_
   refine Qio (kn := .i64) (T := 33) (b := b) (i := i) (cap := p_s.length + n1) (k := p_s.length + 1 - i) (R := Qh) (ht rfl) (.next .here) (ht rfl) (by simp; omega) (by omega) (by omega) (by omega) (by kernel_rfl) (by kernel_rfl) (by kernel_rfl) rfl fun b3 e => ?_
   refine ja ?_
   refine Qd <| rs <| rt <| jm ?_
   refine jm ?_
   refine jq (Y2 (sz := 67) (ht rfl) (.yes (ht rfl) Qg) .no i (i + (p_s.length + 1 - i)) rfl rfl (by omega) (by omega) (by omega) (by kernel_rfl)) ?_
   refine jm ?_
   refine Qcx (T := 33) (lo := i) (R := Qh) (N := 1) (xs := [y]) (ht rfl) .here (QaH (b := b2) (T := 33) (zs := [y].map some ++ List.replicate n2 none) (lo := 0) (cap := 1 + n2) (KG (ht rfl)) (.next (.next .here)) rfl) (by simp; omega) (by simp; omega) (by kernel_rfl) rfl ?_
   refine Qd <| rs <| rd (n := 8) (.m rfl <| .m rfl <| .m rfl <| .p (PJ.eqv (QS (ht rfl) (ht rfl)) w2) <| .p (Y2 (sz := 67) (ht rfl) (.yes (ht rfl) Qg) .no (i + 1) (i + (p_s.length + 1 - i)) rfl rfl (by omega) (by omega) (by omega) (by kernel_rfl)) <| .m rfl <| .m rfl <| .p (Y2 (sz := 67) (KG (ht rfl)) (.yes (ht rfl) Qg) .no i p_s.length rfl rfl (by omega) (by omega) (by omega) (by kernel_rfl)) <| .nil) ?_
   refine Qcx (T := 33) (lo := i + 1) (R := Qh) (N := p_s.length - i) (xs := p_s.drop i) (ht rfl) .here (QaH (b := b) (lo := i) (cap := p_s.length + n1 - i) (ht rfl) (.next .here) (by rw [List.drop_append_of_le_length (by simp; omega)]; simp)) (by simp; omega) (by simp; omega) (by kernel_rfl) rfl ?_
   refine Qd <| rs <| rt <| jm ?_
   refine ja ?_
   refine Qd <| Qaa r e (i + (p_s.length + 1 - i)) (i + (p_s.length + 1 - i) + e) .here (by rw [hr]; exact QjB p_s y i e n1 hi) (by rw [hr]; simp; omega) (by rw [hr]; simp; omega) ?_
   exact Qj fun a w hst => QE hst rfl (.tmp rfl) (.slice (some ⟨b3, 0, none⟩) (i + (p_s.length + 1 - i)) (i + (p_s.length + 1 - i) + e)) (fun _ _ h => UD.2 ⟨h, rfl⟩) .h1
  ·have e9 : ¬ p_s.length + n1 < p_s.length + 1 := by have := of_decide_eq_false e8; omega
   refine Qk <| rs <| rt <| jm ?_
   refine jm ?_
   refine jm ?_
   refine jq (PJ.eqv (QS (ht rfl) (ht rfl)) w1) ?_
   refine jq (Y2 (sz := 67) (KG (ht rfl)) .no (.yes (ht rfl) Qg) 0 (p_s.length + 1) rfl rfl (by omega) (by omega) (by omega) (by kernel_rfl)) ?_
   refine ja ?_
   refine Qd <| rs <| rs <| rt <| jm ?_
   refine jm ?_
   refine jm ?_
   refine jm ?_
   refine jq (PJ.eqv (QS (ht rfl) (ht rfl)) w2) ?_
   refine jq (Y2 (sz := 67) (n := p_s.length + 1) (cap := p_s.length + n1) (ht rfl) (.yes (ht rfl) Qg) .no (i + 1) (p_s.length + 1) rfl rfl (by omega) (by omega) (by omega) (by kernel_rfl)) ?_
   refine jq (Qe3 (fn := Tryz.f106) (tS := 90) (tR := 4) (sz := 67) (T1 := 33) (T2 := 33) (R1 := Qh) (R2 := Qh) (z2 := p_s.map some ++ List.replicate n1 none) Tryz.func106 (by kernel_rfl) (by kernel_rfl) (by kernel_rfl) (by kernel_rfl) (by kernel_rfl) (KG (ht rfl)) (ht rfl) .here .here (Nat.mul_pos (by simp; omega) (by decide))) ?_
   refine jq (ZG (ht rfl)) ?_
   refine Qd <| Qdz (ht rfl) rfl ?_
   refine rs <| rd (n := 8) (.m rfl <| .m rfl <| .m rfl <| .p (PJ.eqv (QS (ht rfl) (ht rfl)) w2) <| .p (Y2 (sz := 67) (n := p_s.length + 1) (cap := p_s.length + n1) (ht rfl) (.yes (ht rfl) Qg) .no (i + 1) (p_s.length + 1) rfl rfl (by omega) (by omega) (by omega) (by kernel_rfl)) <| .m rfl <| .m rfl <| .p (Y2 (sz := 67) (n := p_s.length + 1) (cap := p_s.length + n1) (ht rfl) (.yes (ht rfl) Qg) .no i (p_s.length + 1) rfl rfl (by omega) (by omega) (by omega) (by kernel_rfl)) <| .nil) ?_
   refine Qcx (T := 33) (lo := i + 1) (R := Qh) (N := p_s.length + 1 - i) (xs := p_s.drop i) (ht rfl) (.next .here) (QaH (b := b) (lo := i) (cap := p_s.length + n1 - i) (ht rfl) (.next .here) (by rw [List.drop_append_of_le_length (by simp; omega)]; simp)) (by simp; omega) (by simp; omega) (by kernel_rfl) rfl ?_
   refine Qd <| rs <| rt <| jm ?_
   refine jm ?_
   refine jq (Y2 (sz := 67) (n := p_s.length + 1) (cap := p_s.length + n1) (ht rfl) (.yes (ht rfl) Qg) .no i (p_s.length + 1) rfl rfl (by omega) (by omega) (by omega) (by kernel_rfl)) ?_
   refine jm ?_
   refine Qcx (T := 33) (lo := i) (R := Qh) (N := 1) (xs := [y]) (ht rfl) .here (QaH (b := b2) (T := 33) (zs := [y].map some ++ List.replicate n2 none) (lo := 0) (cap := 1 + n2) (KG (ht rfl)) (.next .here) rfl) (by simp; omega) (by simp; omega) (by kernel_rfl) rfl ?_
   refine Qd <| rs <| rt <| jm ?_
   refine ja ?_
   refine Qd <| Qaa r (n1 - 1) (p_s.length + 1) (p_s.length + n1) .here (by rw [hr]; exact QhN p_s y i n1 e6 (by omega)) (by rw [hr]; simp; omega) (by rw [hr]; simp; omega) ?_
   exact Qj fun a w hst => QE hst rfl (.tmp rfl) (.slice (some ⟨b, 0, none⟩) (p_s.length + 1) (p_s.length + n1)) (fun _ _ h => UD.2 ⟨h, rfl⟩) .h1
theorem Ub {G : GP} (hg0 : HG0 G) (hg1 : HG1 G) (hg2 : HG2 G) {p_p : (List (BitVec 8)) × (List QB) × (List Q8) × (List QZ)} {p_s : QB} {b_p : Nat} {v_p1 : Value} {v_p2 : Value} {v_p3 : Value} {r : ((List (BitVec 8)) × (List QB) × (List Q8) × (List QZ)) × Int} (h : ZU p_p p_s = some r) : Ctr Tryz.prog G 21 [val (.pointer (some ⟨b_p, 0, none⟩)), Qh.slot p_s] [box b_p 116 (prod (sl u8) (prod (exv v_p1) (prod (exv v_p2) (exv v_p3)))) (p_p.1, (), (), ()), own 33 Qh v_p1 p_p.2.1, own 123 Qv v_p2 p_p.2.2.1, own 130 Qs v_p3 p_p.2.2.2] (fun (i : Value × Value × Value) => i64.slot r.2) (fun (i : Value × Value × Value) => [box b_p 116 (prod (sl u8) (prod (exv i.1) (prod (exv i.2.1) (exv i.2.2)))) (r.1.1, (), (), ()), own 33 Qh i.1 r.1.2.1, own 123 Qv i.2.1 r.1.2.2.1, own 130 Qs i.2.2 r.1.2.2.2]) := by
 unfold ZU at h
 refine Ql Tryz.func21 rfl 88 rfl rfl fun m0 w0 b0 => ?_
 show Run _ _ _ [(0, val (.pointer (some ⟨b_p, 0, none⟩))), (1, Qh.slot p_s)] _
 refine rs <| rt <| jq (QW (ht rfl)) ?_
 refine jq (pa Qe) ?_
 refine Qd <| rs <| QH <| rs <| rt <| jm ?_
 refine jq (Zz (E := 116) (by kernel_rfl) (ht rfl)) ?_
 refine ja ?_
 refine Qd <| YB (ht rfl) rfl ?_
 refine rs <| rd (n := 5) (.p (plt (ht rfl)) <| .m rfl <| .p (Qt (ht rfl)) <| .p (pfp (off := 0) (ht rfl)) <| .p (plb (ht rfl) .here (.t .a .f)) <| .nil) (Ja (Γ' := [(0, val (.pointer (some ⟨b_p, 0, none⟩))), (3, Qo Qh p_s), (11, Qh.slot p_s), (15, (sl u8).slot p_p.1)]) (H' := [box b_p 116 (prod (sl u8) (prod (exv v_p1) (prod (exv v_p2) (exv v_p3)))) (p_p.1, (), (), ()), own 33 Qh v_p1 p_p.2.1, own 123 Qv v_p2 p_p.2.2.1, own 130 Qs v_p3 p_p.2.2.2]) .k4 .h4 ?_)
 obtain ⟨r1, e2, h⟩ := bs h
 refine jq (pc tl2 (Qek hg0 hg1 hg2 e2)) ?_
 refine jq (ZG (ht rfl)) ?_
 refine ja ?_
 refine Qd <| Qm (ht rfl) (fun e3 => ?_) (fun e3 => ?_)
 ·replace h := bt e3 h
  refine rs <| rt <| jq (pa Qe) ?_
  refine Qd ?_
  obtain rfl := oi h
  exact Qj fun a w hst => QE hst rfl (.tmp rfl) (v_p1, v_p2, v_p3) (fun _ _ h => h) .h4
 ·replace h := bf e3 h
  refine Qk <| Qp <| rs <| rt <| jm ?_
  refine jq (pft (ht rfl) .f) ?_
  refine jq (pft (ht rfl) .f) ?_
  refine jl ?_
  obtain ⟨r2, e4, h⟩ := bs h
  refine jq (Z4 (QX (K0 (ht rfl) .here (Zl (.next .here) (Jx (sl u8) p_p.1 (VQ (prod (exv v_p2) (exv v_p3)) ((), ()) X1)) <| Zl (.next (.next .here)) (Jx (sl u8) p_p.1 (Jx (sl Qh) p_p.2.1 (VQ (exv v_p3) () X1))) <| Zl (.next (.next (.next .here))) (Jx (sl u8) p_p.1 (Jx (sl Qh) p_p.2.1 (Jx (sl Qv) p_p.2.2.1 X1))) <| KW)) <| QX (ZY (ht rfl)) <| J8) (by kernel_rfl) (Xm e4) (Qc4 (Ul (Rep.flat_slot QaN _) (Ul (Rep.flat_slot Ux _) (Qbp))))) ?_
  refine jm ?_
  refine jx ?_
  refine jx ?_
  refine ja ?_
  refine ja ?_
  refine Qd <| rs <| QH <| rs ?_
  obtain ⟨y1, e6, h⟩ := bs h
  refine (We (n := 14) (Γ' := [(0, val (.pointer (some ⟨b_p, 0, none⟩))), (3, Qo Qh p_s), (5, i64.slot r2.1), (6, bl.slot r2.2), (40, bl.slot y1)]) (H' := [box b_p 116 (prod (sl u8) (prod (exv v_p1) (prod (exv v_p2) (exv v_p3)))) (p_p.1, (), (), ()), own 33 Qh v_p1 p_p.2.1, own 123 Qv v_p2 p_p.2.2.1, own 130 Qs v_p3 p_p.2.2.2]) ?_ fun J => ?_)
  ·clear e6
   refine ja ?_
   refine Qd <| Qm (ht rfl) (fun e8 => ?_) (fun e8 => ?_)
   ·replace h := bt e8 h
    refine rs <| rt <| jq (pa Qe) ?_
    refine Qd ?_
    obtain rfl := oi h
    exact Qj fun a w hst => QE hst rfl (.tmp rfl) (v_p1, v_p2, v_p3) (fun _ _ h => h) .h4
   ·replace h := bf e8 h
    refine rs <| rt <| jm ?_
    refine ja ?_
    refine Qd <| Qm (ht rfl) (fun e9 => ?_) (fun e9 => ?_)
    ·replace h := bt e9 h
     refine rs <| rs <| rt <| jm ?_
     refine jq (pft (ht rfl) .f) ?_
     refine jq (pft (ht rfl) .f) ?_
     refine jl ?_
     obtain ⟨r3, e10, h⟩ := bs h
     refine jq (Z4 (QX (K0 (ht rfl) .here (Zl (.next .here) (Jx (sl u8) p_p.1 (VQ (prod (exv v_p2) (exv v_p3)) ((), ()) X1)) <| Zl (.next (.next .here)) (Jx (sl u8) p_p.1 (Jx (sl Qh) p_p.2.1 (VQ (exv v_p3) () X1))) <| Zl (.next (.next (.next .here))) (Jx (sl u8) p_p.1 (Jx (sl Qh) p_p.2.1 (Jx (sl Qv) p_p.2.2.1 X1))) <| KW)) <| QX (ZY (ht rfl)) <| J8) (by kernel_rfl) (qq e10) (Rep.flat_slot Ux _)) ?_
     refine jq (ZG (ht rfl)) ?_
     refine Qd ?_
     obtain ⟨y2, e17, h⟩ := bs h
     refine KQ (ι := Value) (Γ' := fun (v1 : Value) => []) (H' := fun (v1 : Value) => [box b_p 116 (prod (sl u8) (prod (exv v_p1) (prod (exv v1) (exv v_p3)))) (p_p.1, (), (), ()), own 123 Qv v1 y2, own 33 Qh v_p1 p_p.2.1, own 130 Qs v_p3 p_p.2.2.2]) ?_ fun J => ?_
     ·intro v1
      clear e17
      show Run _ _ _ [] [box b_p 116 (prod (sl u8) (prod (exv v_p1) (prod (exv v1) (exv v_p3)))) (p_p.1, (), (), ()), own 123 Qv v1 y2, own 33 Qh v_p1 p_p.2.1, own 130 Qs v_p3 p_p.2.2.2]
      refine rs <| rt <| jq (pa Qe) ?_
      refine Qd ?_
      obtain rfl := oi h
      exact Qj fun a w hst => QE hst rfl (.tmp rfl) (v_p1, v1, v_p3) (fun _ _ h => h) (.cons .here <| .cons (.next .here) <| .cons .here <| .cons .here <| .nil)
     ·refine Qm (ht rfl) (fun e11 => ?_) (fun e11 => ?_)
      ·replace h := bt e11 e17
       obtain ⟨x2, e12, h⟩ := bs h
       obtain ⟨r4, e13, h⟩ := bs h
       obtain ⟨r5, e14, h⟩ := bs h
       obtain ⟨x3, e15, h⟩ := bs h
       obtain ⟨e16, h⟩ := QD h
       refine XB (H' := [own 123 Qv v_p2 p_p.2.2.1, box b_p 116 (prod (sl u8) (prod (exv v_p1) (prod (exv v_p2) (exv v_p3)))) (p_p.1, (), (), ()), own 33 Qh v_p1 p_p.2.1, own 130 Qs v_p3 p_p.2.2.2]) (.cons (.next (.next .here)) <| .cons .here <| .cons .here <| .cons .here <| .nil) ?_
       refine rdL (n := 18) (H := [box b_p 116 (prod (sl u8) (prod (exv v_p1) (prod (exv v_p2) (exv v_p3)))) (p_p.1, (), (), ()), own 33 Qh v_p1 p_p.2.1, own 130 Qs v_p3 p_p.2.2.2]) (Ls := [⟨[own 123 Qv v_p2 p_p.2.2.1], [(17, ⟨Value, fun (v2 : Value) => [own 123 Qv v2 (p_p.2.2.1 ++ ([x3]))], fun (v2 : Value) => [(66, ov v2)]⟩)]⟩]) (.m rfl <| .m rfl <| .p (Qt (ht rfl)) <| .p (pfp (off := 2) (ht rfl)) <| .p (plb (ht rfl) .here (.t .a (.t .s (.t .s .f)))) <| .m rfl <| .p (Qt (ht rfl)) <| .p (pfp (off := 1) (ht rfl)) <| .p (plb (ht rfl) .here (.t .a (.t .s .f))) <| .m rfl <| .p (Zh (ht rfl) (.next .here) (ht rfl) Qg (Jb e12).1 (Jb e12).2.1 (by kernel_rfl)) <| .p (PJ.eqv (Xr Qh (r2.1.toNat) (ht rfl) (.next .here) (Jb e12).2.1 (by kernel_rfl)) (U0 e12 (Jb e12).2.1)) <| .p (pc tl1 (KB e13)) <| .p (plt (ht rfl)) <| .p (pc tl1 (KB e14)) <| .p (PJ.eqv (J9 (R := Qv) (Qn (Qn (Qn QG (Qn QG (Qn (QA 32 QK) (QA 32 QK)))) J7) (Qn (Qn QG (Qn QG (Qn (QA 32 QK) (QA 32 QK)))) J7)) (by kernel_rfl) (by kernel_rfl) rfl (.cons (ht rfl) .f (by kernel_rfl) (.cons (ht rfl) .s (by kernel_rfl) .nil))) (oi e15)) <| .p (QO (T := 123) (R := Qv) (.cons (ht rfl) .nil) rfl (by kernel_rfl) (by kernel_rfl)) <| .step 0 rfl .here (.inl rfl) (fun i => ⟨_, _, fun j => j, (Qdk (T := 123) (E := 123) (ht rfl) .here (Jd (ht rfl)) (by kernel_rfl) (by kernel_rfl) e16 rfl), fun _ => rfl, VY, Bu⟩) <| .nil) ?_
       rintro v2
       refine Ja (Γ' := [(49, val (.pointer (some ⟨b_p, 0, none⟩))), (66, ov v2)]) (H' := [own 123 Qv v2 (p_p.2.2.1 ++ ([x3])), box b_p 116 (prod (sl u8) (prod (exv v_p1) (prod (exv v_p2) (exv v_p3)))) (p_p.1, (), (), ()), own 33 Qh v_p1 p_p.2.1, own 130 Qs v_p3 p_p.2.2.2]) .k2 .h4 ?_
       refine jq (Qt (ht rfl)) ?_
       refine jq (pfp (off := 2) (ht rfl)) ?_
       refine Bt (p_p.1, (), (), ()) (ht rfl) (ht rfl) (.next .here) (UN (sl u8) p_p.1 (UN (exv v_p1) () (Qjk (exv v_p3) () QaD))) (by kernel_rfl) ?_
       refine Qd ?_
       obtain rfl := oi h
       exact Q7 (.nil) .h4 (J v2)
      ·replace h := bf e11 e17
       refine Qk ?_
       obtain rfl := oi h
       exact Q7 (.nil) (.cons .here <| .cons (.next .here) <| .cons .here <| .cons .here <| .nil) (J v_p2)
    ·replace h := bf e9 h
     refine rs <| rt <| jm ?_
     refine jq (Qt (ht rfl)) ?_
     refine jq (pfp (off := 1) (ht rfl)) ?_
     refine jq (plb (ht rfl) .here (.t .a (.t .s .f))) ?_
     refine jq (Xc (sz := 67) (ht rfl) (.next .here) (by kernel_rfl)) ?_
     refine jq (Y1 (ht rfl) Qe) ?_
     obtain ⟨x4, e18, h⟩ := bs h
     refine jq (PJ.eqv (pa (ht rfl)) (oi e18)) ?_
     refine Qd <| Qm (ht rfl) (fun e19 => ?_) (fun e19 => ?_)
     ·replace h := bt e19 h
      refine rs <| rt <| jq (pa Qe) ?_
      refine Qd ?_
      obtain rfl := oi h
      exact Qj fun a w hst => QE hst rfl (.tmp rfl) (v_p1, v_p2, v_p3) (fun _ _ h => h) .h4
     ·replace h := bf e19 h
      refine Qk <| Qp <| rs ?_
      obtain ⟨r6, e20, h⟩ := bs h
      obtain ⟨r7, e21, h⟩ := bs h
      refine XB (H' := [own 33 Qh v_p1 p_p.2.1, box b_p 116 (prod (sl u8) (prod (exv v_p1) (prod (exv v_p2) (exv v_p3)))) (p_p.1, (), (), ()), own 123 Qv v_p2 p_p.2.2.1, own 130 Qs v_p3 p_p.2.2.2]) (.cons (.next .here) <| .cons .here <| .cons .here <| .cons .here <| .nil) ?_
      refine rdL (n := 10) (H := [box b_p 116 (prod (sl u8) (prod (exv v_p1) (prod (exv v_p2) (exv v_p3)))) (p_p.1, (), (), ()), own 123 Qv v_p2 p_p.2.2.1, own 130 Qs v_p3 p_p.2.2.2]) (Ls := [⟨[own 33 Qh v_p1 p_p.2.1], [(8, ⟨Value, fun (v3 : Value) => [own 33 Qh v3 ([r6]), own 33 Qh v_p1 p_p.2.1], fun (v3 : Value) => [(84, ov v3)]⟩), (9, ⟨Value × Value, fun (i : Value × Value) => [own 33 Qh i.2 r7], fun (i : Value × Value) => [(85, ov i.2), (84, ov i.1)]⟩)]⟩]) (.m rfl <| .m rfl <| .p (Qt (ht rfl)) <| .p (pfp (off := 1) (ht rfl)) <| .p (plb (ht rfl) .here (.t .a (.t .s .f))) <| .m rfl <| .p (plt (ht rfl)) <| .p (pc tl1 (KB e20)) <| .step 0 rfl .here (.inl rfl) (fun i => ⟨_, _, fun j => j, (Qey (T := 33) (R := Qh) (.cons (ht rfl) .nil) rfl (by kernel_rfl) (by kernel_rfl) rfl), fun _ => rfl, VY, Bu⟩) <| .step 0 rfl (.next .here) (.inl rfl) (fun i => ⟨_, _, fun j => (i, j), (wc tl3 (VZ e21) (.cons (.next .here) <| .cons .here <| .nil)), fun _ => rfl, VY, Bu⟩) <| .nil) ?_
      rintro ⟨v3, v4⟩
      refine Ja (Γ' := [(76, val (.pointer (some ⟨b_p, 0, none⟩))), (85, ov v4)]) (H' := [own 33 Qh v4 r7, box b_p 116 (prod (sl u8) (prod (exv v_p1) (prod (exv v_p2) (exv v_p3)))) (p_p.1, (), (), ()), own 123 Qv v_p2 p_p.2.2.1, own 130 Qs v_p3 p_p.2.2.2]) .k2 .h4 ?_
      refine jq (Qt (ht rfl)) ?_
      refine jq (pfp (off := 1) (ht rfl)) ?_
      refine Bt (p_p.1, (), (), ()) (ht rfl) (ht rfl) (.next .here) (UN (sl u8) p_p.1 (Qjk (prod (exv v_p2) (exv v_p3)) ((), ()) QaD)) (by kernel_rfl) ?_
      refine Qd <| rs <| rt <| jq (pa Qe) ?_
      refine Qd ?_
      obtain rfl := oi h
      exact Qj fun a w hst => QE hst rfl (.tmp rfl) (v4, v_p2, v_p3) (fun _ _ h => h) .h4
  ·rcases Jj (r2.2) with e5 | e5
   ·replace e6 := bt e5 e6
    obtain ⟨x1, e7, e6⟩ := bind_some e6
    exact rd (n := 14) (.m rfl <| .m rfl <| .read (.yes (gY e5) (pm (ht rfl))) <| .read (.yes (gY e5) (Qt (ht rfl))) <| .read (.yes (gY e5) (pfp (off := 1) (ht rfl))) <| .read (.yes (gY e5) (plb (ht rfl) .here (.t .a (.t .s .f)))) <| .read (.yes (gY e5) (pm (ht rfl))) <| .read (.yes (gY e5) (Zh (ht rfl) (.next .here) (ht rfl) Qg (Jb e7).1 (Jb e7).2.1 (by kernel_rfl))) <| .read (.yes (gY e5) (W2 (off := 0) (ht rfl) (by kernel_rfl))) <| .read (.yes (gY e5) (Bs Qh r2.1 (ht rfl) (.next .here) e7 (.t .a .f) (by kernel_rfl) rfl)) <| .read (.yes (gY e5) (pft (ht rfl) .f)) <| .read (.yes (gY e5) (plt (ht rfl))) <| .read (.yes (gY e5) (Qbw (n := 3) (Qd6 (fs := #[Field.mk "Epoch" 3 0 false "" "" 0, Field.mk "Tick" 3 1 false "" "" 8, Field.mk "Tree" 23 2 false "" "" 16, Field.mk "Log" 23 34 false "" "" 48]) (by kernel_rfl) (by kernel_rfl) rfl (.cons rfl (by kernel_rfl) (by kernel_rfl) (QbC.mono (by omega) (QeJ (by kernel_rfl))) (.cons rfl (by kernel_rfl) (by kernel_rfl) (QbC.mono (by omega) (QeJ (by kernel_rfl))) (.cons rfl (by kernel_rfl) (by kernel_rfl) (Qbx (e := 5) (by kernel_rfl) (by kernel_rfl) (Qd0 (by kernel_rfl))) (.one rfl (by kernel_rfl) (by kernel_rfl) (Qbx (e := 5) (by kernel_rfl) (by kernel_rfl) (Qd0 (by kernel_rfl)))))))) (by decide) rfl (by kernel_rfl) (ht rfl) (ht rfl))) <| .p (pk1 e5 (ht rfl) (oi e6)) <| .nil) (Ja (Γ' := [(0, val (.pointer (some ⟨b_p, 0, none⟩))), (3, Qo Qh p_s), (5, i64.slot r2.1), (6, bl.slot r2.2), (40, bl.slot y1)]) (H' := [box b_p 116 (prod (sl u8) (prod (exv v_p1) (prod (exv v_p2) (exv v_p3)))) (p_p.1, (), (), ()), own 33 Qh v_p1 p_p.2.1, own 123 Qv v_p2 p_p.2.2.1, own 130 Qs v_p3 p_p.2.2.2]) .k5 .h4 J)
   ·replace e6 := bf e5 e6
    exact rd (n := 14) (.m rfl <| .m rfl <| .read (.no (gN e5)) <| .read (.no (gN e5)) <| .read (.no (gN e5)) <| .read (.no (gN e5)) <| .read (.no (gN e5)) <| .read (.no (gN e5)) <| .read (.no (gN e5)) <| .read (.no (gN e5)) <| .read (.no (gN e5)) <| .read (.no (gN e5)) <| .read (.no (gN e5)) <| .p (pk2 e5 QQ (oi e6)) <| .nil) (Ja (Γ' := [(0, val (.pointer (some ⟨b_p, 0, none⟩))), (3, Qo Qh p_s), (5, i64.slot r2.1), (6, bl.slot r2.2), (40, bl.slot y1)]) (H' := [box b_p 116 (prod (sl u8) (prod (exv v_p1) (prod (exv v_p2) (exv v_p3)))) (p_p.1, (), (), ()), own 33 Qh v_p1 p_p.2.1, own 123 Qv v_p2 p_p.2.2.1, own 130 Qs v_p3 p_p.2.2.2]) .k5 .h4 J)
theorem UK {G : GP} {p_t : Option QF} {r : Int} (h : X4 p_t = some r) : Ctr Tryz.prog G 131 [(ptr QP).slot p_t] [] (fun (_ : Unit) => i64.slot r) (fun (_ : Unit) => []) := by
 unfold X4 at h
 refine Ql Tryz.func131 rfl 10 rfl rfl fun m0 w0 b0 => ?_
 show Run _ _ _ [(0, (ptr QP).slot p_t)] _
 refine rs <| rt <| jq (pa Qe) ?_
 refine Qd <| rs <| rs <| rt <| jm ?_
 refine jq (qy (E := 153) (by kernel_rfl) (ht rfl)) ?_
 refine Qd <| Qm (ht rfl) (fun e1 => ?_) (fun e1 => ?_)
 ·replace h := bt e1 h
  refine rs <| rt <| jq (pa Qe) ?_
  refine Qd ?_
  obtain rfl := oi h
  exact Qj fun a w hst => QE hst rfl (.tmp rfl) () (fun _ _ h => h) (.nil)
 ·replace h := bf e1 h
  refine Qk <| rs <| rt <| jm ?_
  obtain ⟨x1, e2, h⟩ := bs h
  refine jq (JY (ht rfl) e2) ?_
  refine jq (pft (ht rfl) .f) ?_
  refine jl ?_
  obtain ⟨e3, h⟩ := QD h
  refine jq (KU Qe (ht rfl) Qg e3) ?_
  refine ja ?_
  refine Qd ?_
  obtain rfl := oi h
  exact Qj fun a w hst => QE hst rfl (.tmp rfl) () (fun _ _ h => h) (.nil)
theorem QaW {G : GP} {p_s : Int × Int × Qa × (Option QF) × (Option QF) × Int} {b_s : Nat} {c_s : List Value} {r : Int} (h : Vx p_s = some r) : Ctr Tryz.prog G 87 [val (.pointer (some ⟨b_s, 0, none⟩))] [box b_s 102 (exr (prod i64 (prod i64 (prod Qb (prod (ptr QP) (prod (ptr QP) i64))))) c_s) (p_s.1, p_s.2.1, p_s.2.2.1, p_s.2.2.2.1, p_s.2.2.2.2.1, p_s.2.2.2.2.2)] (fun (_ : Unit) => i64.slot r) (fun (_ : Unit) => [box b_s 102 (exr (prod i64 (prod i64 (prod Qb (prod (ptr QP) (prod (ptr QP) i64))))) c_s) (p_s.1, p_s.2.1, p_s.2.2.1, p_s.2.2.2.1, p_s.2.2.2.2.1, p_s.2.2.2.2.2)]) := by
 unfold Vx at h
 refine Ql Tryz.func87 rfl 15 rfl rfl fun m0 w0 b0 => ?_
 show Run _ _ _ [(0, val (.pointer (some ⟨b_s, 0, none⟩)))] _
 refine rs <| rt <| jq (PJ.xw (.ex .refl) (pa Qe)) ?_
 refine Qd <| rs <| rs <| rt <| jq (PJ.xw (.ex .refl) (pm (ht rfl))) ?_
 refine jq (PJ.xw (.ex .refl) (Zz (E := 102) (by kernel_rfl) (ht rfl))) ?_
 refine Qd <| YB (ht rfl) rfl ?_
 refine Qk <| rs ?_
 obtain ⟨r1, e2, h⟩ := bs h
 refine rd (n := 9) (.p (PJ.xw (.ex .refl) (pm (ht rfl))) <| .p (PJ.xw (.ex .refl) (Qt (ht rfl))) <| .p (PJ.xw (.ex .refl) (pfp (off := 34) (ht rfl))) <| .p (PJ.xw (.ex .refl) (plb (ht rfl) .here (.t .a (.t .s (.t .s (.t .s .f)))))) <| .p (PJ.xw (.ex .refl) (pc tl1 (UK e2))) <| .p (PJ.xw (.ex .refl) (pm (ht rfl))) <| .p (PJ.xw (.ex .refl) (Qt (ht rfl))) <| .p (PJ.xw (.ex .refl) (pfp (off := 0) (ht rfl))) <| .p (PJ.xw (.ex .refl) (plb (ht rfl) .here (.t .a .f))) <| .nil) (Ja (Γ' := [(9, i64.slot r1), (13, i64.slot p_s.1)]) (H' := [box b_s 102 (exr (prod i64 (prod i64 (prod Qb (prod (ptr QP) (prod (ptr QP) i64))))) c_s) (p_s.1, p_s.2.1, p_s.2.2.1, p_s.2.2.2.1, p_s.2.2.2.2.1, p_s.2.2.2.2.2)]) .k2 .h1 ?_)
 obtain ⟨e3, h⟩ := QD h
 refine jq (PJ.xw (.ex .refl) (KU (ht rfl) (ht rfl) Qg e3)) ?_
 refine jq (PJ.xw (.ex .refl) (pa (ht rfl))) ?_
 refine Qd ?_
 obtain rfl := oi h
 exact Qj fun a w hst => QE hst rfl (.tmp rfl) () (fun _ _ h => h) .h1
theorem QaR {G : GP} (hg0 : HG0 G) (hg1 : HG1 G) (hg2 : HG2 G) {p_s : Int × Int × Qa × (Option QF) × (Option QF) × Int} {p_i : Int} {b_s : Nat} {r : (Int × Int × Qa × (Option QF) × (Option QF) × Int) × (Option QF) × Int} (h : VG p_s p_i = some r) : Ctr Tryz.prog G 88 [val (.pointer (some ⟨b_s, 0, none⟩)), i64.slot p_i] [box b_s 102 (prod i64 (prod i64 (prod Qb (prod (ptr QP) (prod (ptr QP) i64))))) (p_s.1, p_s.2.1, p_s.2.2.1, p_s.2.2.2.1, p_s.2.2.2.2.1, p_s.2.2.2.2.2)] (fun (_ : Unit) => tup [(ptr QP).slot r.2.1, i64.slot r.2.2]) (fun (_ : Unit) => [box b_s 102 (prod i64 (prod i64 (prod Qb (prod (ptr QP) (prod (ptr QP) i64))))) (r.1.1, r.1.2.1, r.1.2.2.1, r.1.2.2.2.1, r.1.2.2.2.2.1, r.1.2.2.2.2.2)]) := by
 unfold VG at h
 refine Ql Tryz.func88 rfl 66 rfl rfl fun m0 w0 b0 => ?_
 show Run _ _ _ [(0, val (.pointer (some ⟨b_s, 0, none⟩))), (1, i64.slot p_i)] _
 refine rs <| rt <| jq (pa (UH (R := QP))) ?_
 refine jq (pa Qe) ?_
 refine Qd <| rs <| rs <| rt <| jm ?_
 refine jq (Qt (ht rfl)) ?_
 refine jq (pfp (off := 36) (ht rfl)) ?_
 refine jq (plb (ht rfl) .here (.t .a (.t .s (.t .s (.t .s (.t .s .s)))))) ?_
 refine jm ?_
 refine jq (ZL (ht rfl) (ht rfl)) ?_
 refine Qd <| Qm (ht rfl) (fun e1 => ?_) (fun e1 => ?_)
 ·replace h := bt e1 h
  refine rs <| rt <| jm ?_
  refine jq (Qt (ht rfl)) ?_
  refine jq (pfp (off := 35) (ht rfl)) ?_
  refine jq (plb (ht rfl) .here (.t .a (.t .s (.t .s (.t .s (.t .s .f)))))) ?_
  refine ja ?_
  refine jq (pa Qe) ?_
  refine Qd ?_
  obtain rfl := oi h
  exact Qj fun a w hst => JX hst rfl (.cons (.tmp rfl) <| .cons (.tmp rfl) <| .nil) rfl () (fun _ _ h => h) .h1
 ·replace h := bf e1 h
  refine Qk <| rs <| rt <| jm ?_
  refine jq (Qt (ht rfl)) ?_
  refine jq (pfp (off := 2) (ht rfl)) ?_
  refine jq (plb (ht rfl) .here (.t .a (.t .s (.t .s .f)))) ?_
  refine jm ?_
  refine jq (Br (ht rfl) (Qy (x := 24#64) rfl) JV (Int.natCast_nonneg _)) ?_
  refine jq (Jp (k := .u8) (b := 8) rfl rfl (by kernel_rfl) (ht rfl) Qg) ?_
  refine jm ?_
  refine jq (Br (ht rfl) (Qy (x := 16#64) rfl) JV (Int.natCast_nonneg _)) ?_
  refine jq (Jp (k := .u8) (b := 8) rfl rfl (by kernel_rfl) (ht rfl) Qg) ?_
  refine jm ?_
  refine jq (Br (ht rfl) (Qy (x := 8#64) rfl) JV (Int.natCast_nonneg _)) ?_
  refine jq (Jp (k := .u8) (b := 8) rfl rfl (by kernel_rfl) (ht rfl) Qg) ?_
  refine jm ?_
  refine jq (Jp (k := .u8) (b := 8) rfl rfl (by kernel_rfl) (ht rfl) Qg) ?_
  refine jq (QO (T := 5) (R := u8) (.cons (ht rfl) (.cons (ht rfl) (.cons (ht rfl) (.cons (ht rfl) .nil)))) rfl (by kernel_rfl) (by kernel_rfl)) ?_
  obtain ⟨r1, e2, h⟩ := bs h
  refine jq (pc tl2 (Qb0 hg1 hg2 e2)) ?_
  refine jm ?_
  refine jx ?_
  refine jx ?_
  refine al (x := (Vector.replicate 16 (0#8))) (R := Qz) (QA 16 QK) fun b1 => ?_
  refine al (x := (Vector.replicate 32 (0#8))) (R := Qb) (QA 32 QK) fun b2 => ?_
  refine jk (r' := r1.1) (ht rfl) (ht rfl) (.next .here) .a ?_
  refine Jn (t := 6) .here (.of_lk rfl) ?_
  refine jk (r' := r1.2) (ht rfl) (ht rfl) .here .a ?_
  refine Jn (t := 7) .here (.of_lk rfl) ?_
  refine Qd <| rs ?_
  obtain ⟨r2, e3, h⟩ := bs h
  refine rd (n := 15) (.m rfl <| .p (Qt (ht rfl)) <| .p (pfp (off := 0) (ht rfl)) <| .p (plb (ht rfl) .here (.t .a .f)) <| .m rfl <| .p (Qt (ht rfl)) <| .p (pfp (off := 1) (ht rfl)) <| .p (plb (ht rfl) .here (.t .a (.t .s .f))) <| .p (plt (ht rfl)) <| .p (plt (ht rfl)) <| .p (pc tl4 (Qed hg0 hg1 hg2 e3)) <| .m rfl <| .p (Wo (ht rfl) rfl) <| .p (Wo (ht rfl) rfl) <| .p (pa (ht rfl)) <| .nil) (Ja (Γ' := [(0, val (.pointer (some ⟨b_s, 0, none⟩))), (1, i64.slot p_i), (8, (ptr QP).slot r2.1), (53, i64.slot r2.2)]) (H' := [box b_s 102 (prod i64 (prod i64 (prod Qb (prod (ptr QP) (prod (ptr QP) i64))))) (p_s.1, p_s.2.1, p_s.2.2.1, p_s.2.2.2.1, p_s.2.2.2.2.1, p_s.2.2.2.2.2)]) .k4 .h1 ?_)
  refine ja ?_
  refine Qd <| rs <| rs <| rt <| jm ?_
  refine jq (Yt (ht rfl) Qe) ?_
  refine Qd <| Qm (ht rfl) (fun e4 => ?_) (fun e4 => ?_)
  ·replace h := bt e4 h
   refine rs <| rt <| jm ?_
   refine jq (pa (UH (R := QP))) ?_
   refine ja ?_
   refine Qd ?_
   obtain rfl := oi h
   exact Qj fun a w hst => JX hst rfl (.cons (.tmp rfl) <| .cons (.tmp rfl) <| .nil) rfl () (fun _ _ h => h) .h1
  ·replace h := bf e4 h
   refine Qk <| rs <| rt <| jm ?_
   refine jm ?_
   refine jm ?_
   refine jm ?_
   refine jq (Qt (ht rfl)) ?_
   refine jq (pfp (off := 35) (ht rfl)) ?_
   refine jk (r' := (p_s.1, p_s.2.1, p_s.2.2.1, p_s.2.2.2.1, r2.1, p_s.2.2.2.2.2)) (ht rfl) (ht rfl) .here (.t .a (.t .s (.t .s (.t .s (.t .s .f))))) ?_
   refine jq (Qt (ht rfl)) ?_
   refine jq (pfp (off := 36) (ht rfl)) ?_
   refine jk (r' := (p_s.1, p_s.2.1, p_s.2.2.1, p_s.2.2.2.1, r2.1, p_i)) (ht rfl) (ht rfl) .here (.t .a (.t .s (.t .s (.t .s (.t .s .s))))) ?_
   refine Qd <| rs <| rt <| jm ?_
   refine ja ?_
   refine jq (pa Qe) ?_
   refine Qd ?_
   obtain rfl := oi h
   exact Qj fun a w hst => JX hst rfl (.cons (.tmp rfl) <| .cons (.tmp rfl) <| .nil) rfl () (fun _ _ h => h) .h1
theorem QeA {G : GP} (hg0 : HG0 G) (hg1 : HG1 G) (hg2 : HG2 G) {p_kind : Int} {p_id : QL} {p_q : BitVec 32} {p_seed : Qa} {p_message : List (BitVec 8)} {r : (List (BitVec 8)) × Int} (h : Wk p_kind p_id p_q p_seed p_message = some r) : Ctr Tryz.prog G 132 [i64.slot p_kind, Qz.slot p_id, u32.slot p_q, Qb.slot p_seed, (sl u8).slot p_message] [] (fun (u0 : Value) => tup [ov u0, i64.slot r.2]) (fun (u0 : Value) => [own 5 u8 u0 r.1]) := by
 unfold Wk at h
 refine Ql Tryz.func132 rfl 71 rfl rfl fun m0 w0 b0 => ?_
 show Run _ _ _ [(0, i64.slot p_kind), (1, Qz.slot p_id), (2, u32.slot p_q), (3, Qb.slot p_seed), (4, (sl u8).slot p_message)] _
 refine rs <| rt <| jq (QW (ht rfl)) ?_
 refine jq (QW (ht rfl)) ?_
 refine QC (T := 5) u8 rfl fun v1 => ?_
 refine jq (pa Qe) ?_
 refine Qd <| rs <| rt <| jm ?_
 obtain ⟨r1, e1, h⟩ := bs h
 refine jq (pc tl1 (Wm hg0 e1)) ?_
 refine jm ?_
 refine jx ?_
 refine jx ?_
 refine al (x := (0, 0, 0)) (R := Qx) (Qn QG (Qn QG QG)) fun b1 => ?_
 refine jk (r' := r1.1) (ht rfl) (ht rfl) .here .a ?_
 refine Jn (t := 12) .here (.of_lk rfl) ?_
 refine ja ?_
 refine Qd <| rs <| rs <| rt <| jm ?_
 refine jq (ZG (ht rfl)) ?_
 refine Qd <| Qm (ht rfl) (fun e2 => ?_) (fun e2 => ?_)
 ·replace h := bt e2 h
  refine rs <| rt <| QC (T := 5) u8 rfl fun v2 => ?_
  refine jq (pa Qe) ?_
  refine Qd ?_
  obtain rfl := oi h
  exact Qj fun a w hst => JX hst rfl (.cons (.tmp rfl) <| .cons (.tmp rfl) <| .nil) rfl v2 (fun _ _ h => h) .h1
 ·replace h := bf e2 h
  refine Qk <| rs <| rt <| jl ?_
  refine jm ?_
  refine jl ?_
  obtain ⟨r2, e3, h⟩ := bs h
  refine jq (pc (hc (ht rfl) <| hc (ht rfl) <| hc Qe <| hc (ht rfl) <| Q1) (Wr hg1 hg2 e3)) ?_
  refine al (x := (Vector.replicate 32 (0#8))) (R := Qb) (QA 32 QK) fun b2 => ?_
  refine jk (r' := r2) (ht rfl) (ht rfl) .here .a ?_
  refine Jn (t := 14) .here (.of_lk rfl) ?_
  refine Qd <| rs <| rt <| jq (J9 (R := prod (exv (.slice none 0 0)) bl) (Qn V0 qu) (by kernel_rfl) (by kernel_rfl) rfl .nil) ?_
  refine Qbe (T1 := 5) u8 (ht rfl) rfl fun b3 v3 => ?_
  refine ja ?_
  refine Qd <| rs <| rt <| jm ?_
  refine jm ?_
  refine jq (Jp (k := .u32) (b := 32) rfl rfl (by kernel_rfl) (ht rfl) Qg) ?_
  obtain ⟨r3, e4, h⟩ := bs h
  refine jc tl2 (Z8 e4) (.cons (.next .here) <| .cons .here <| .nil) fun v4 => ?_
  refine Qd <| rs <| rt <| jm ?_
  refine jq (JA (ht rfl) (by decide) (by kernel_rfl)) ?_
  obtain ⟨r4, e5, h⟩ := bs h
  refine jc tl2 (J1 e5) .h2 fun v5 => ?_
  refine Qd <| rs <| rs ?_
  obtain ⟨r5, e6, h⟩ := bs h
  obtain ⟨r6, e7, h⟩ := bs h
  refine rd (n := 10) (.p (plt (ht rfl)) <| .p (plt (ht rfl)) <| .m rfl <| .p (JA (ht rfl) (by decide) (by kernel_rfl)) <| .m rfl <| .p (QO (T := 31) (R := (sl u8)) (.cons (ht rfl) (.cons (ht rfl) .nil)) rfl (by kernel_rfl) (by kernel_rfl)) <| .p (pc (hc (ht rfl) <| hc (ht rfl) <| hc Qe <| hc (ht rfl) <| Q1) (Ky hg1 hg2 e6)) <| .p (pc tl2 (Ctr.froze (UU e7))) <| .p (QR (sz := 1) (ht rfl) (by kernel_rfl)) <| .p (pm Qe) <| .nil) (Ja (Γ' := [(2, u32.slot p_q), (6, Qo Qz p_id), (8, Qo Qb p_seed), (15, val (.pointer (some ⟨b3, 0, none⟩))), (46, (sl i64).slot r6), (47, i64.slot (r6.length : Int)), (48, i64.slot (0 : Int))]) (H' := [box b3 161 (prod (exv v5) bl) ((), r4.2), own 5 u8 v5 r4.1]) .k7 .h2 ?_)
  refine Qd ?_
  obtain ⟨⟨y4, y5, y6⟩, e13, h⟩ := bs h
  refine Q2 (Γi := fun (i : Value) (s : Int × Bool × (List (BitVec 8))) => [(2, u32.slot p_q), (6, Qo Qz p_id), (8, Qo Qb p_seed), (15, val (.pointer (some ⟨b3, 0, none⟩))), (46, (sl i64).slot r6), (47, i64.slot (r6.length : Int)), (48, i64.slot s.1)]) (Hi := fun (i : Value) (s : Int × Bool × (List (BitVec 8))) => [box b3 161 (prod (exv i) bl) ((), s.2.1), own 5 u8 i s.2.2]) e13 v5 (fun a w hst => (hst.sub .k7).keep .h2) ?_ ?_
  ·clear h e13
   rintro v6 ⟨y1, y2, y3⟩ lr h
   change X7 r6 p_id p_q p_seed y1 y2 y3 = some _ at h
   show Run _ _ _ [(2, u32.slot p_q), (6, Qo Qz p_id), (8, Qo Qb p_seed), (15, val (.pointer (some ⟨b3, 0, none⟩))), (46, (sl i64).slot r6), (47, i64.slot (r6.length : Int)), (48, i64.slot y1)] [box b3 161 (prod (exv v6) bl) ((), y2), own 5 u8 v6 y3]
   unfold X7 at h
   refine rs <| rt <| jq (Q5 (ht rfl) (ht rfl)) ?_
   refine Qd <| rs <| Qm (ht rfl) (fun e8 => ?_) (fun e8 => ?_)
   ·replace h := bt e8 h
    refine Qk <| rs <| QH <| rs <| rt <| jm ?_
    obtain ⟨x1, e9, h⟩ := bs h
    refine jq (pix (ht rfl) (ht rfl) Qg e9) ?_
    refine jl ?_
    refine ja ?_
    refine ja ?_
    refine Qd <| rs ?_
    obtain ⟨r7, e10, h⟩ := bs h
    obtain ⟨r8, e11, h⟩ := bs h
    refine XB (H' := [box b3 161 (prod (exv v6) bl) ((), y2), own 5 u8 v6 y3]) .h2 ?_
    refine rdL (n := 11) (H := [box b3 161 (prod (exv v6) bl) ((), y2), own 5 u8 v6 y3]) (Ls := [⟨[], [(10, ⟨Nat, fun (b4 : Nat) => [box b4 23 Qb (Vector.replicate 32 (0#8))], fun (b4 : Nat) => [(18, val (.pointer (some ⟨b4, 0, none⟩)))]⟩)]⟩]) (.p (plt (ht rfl)) <| .m rfl <| .m rfl <| .p (plt (ht rfl)) <| .m rfl <| .m rfl <| .p (plt (ht rfl)) <| .p (pc tl4 (Wr hg1 hg2 e10)) <| .m rfl <| .p (pc (hc (ht rfl) <| hc (ht rfl) <| hc (ht rfl) <| hc (ht rfl) <| hc Qe <| hc (ht rfl) <| Q1) (WZ hg1 hg2 e11)) <| .step 0 rfl .here (.inl rfl) (fun i => ⟨_, _, fun j => j, (qA (x := (Vector.replicate 32 (0#8))) (R := Qb) (QA 32 QK) (by kernel_rfl) rfl), fun _ => rfl, VY, Bu⟩) <| .nil) ?_
    rintro b4
    refine Ja (Γ' := [(2, u32.slot p_q), (6, Qo Qz p_id), (8, Qo Qb p_seed), (15, val (.pointer (some ⟨b3, 0, none⟩))), (18, val (.pointer (some ⟨b4, 0, none⟩))), (46, (sl i64).slot r6), (47, i64.slot (r6.length : Int)), (48, i64.slot y1), (62, Qb.slot r8)]) (H' := [box b4 23 Qb (Vector.replicate 32 (0#8)), box b3 161 (prod (exv v6) bl) ((), y2), own 5 u8 v6 y3]) .k9 .h3 ?_
    refine jk (r' := r8) (ht rfl) (ht rfl) .here .a ?_
    refine Jn (t := 18) .here (.of_lk rfl) ?_
    refine Qd <| rt <| jm ?_
    refine jq (JA (ht rfl) (by decide) (by kernel_rfl)) ?_
    obtain ⟨r9, e12, h⟩ := bs h
    refine jc tl2 (J1 e12) .h2 fun v7 => ?_
    refine Qd <| Qp <| rt <| jq (QS (ht rfl) Qe) ?_
    refine jm ?_
    refine Qd ?_
    obtain rfl := oi h
    exact Q0 v7 .k7 .h2
   ·replace h := bf e8 h
    obtain rfl := oi h
    exact Je v6 .k7 .h2
  ·rintro v8
   show Run _ _ _ [(2, u32.slot p_q), (6, Qo Qz p_id), (8, Qo Qb p_seed), (15, val (.pointer (some ⟨b3, 0, none⟩))), (46, (sl i64).slot r6), (47, i64.slot (r6.length : Int)), (48, i64.slot y4)] [box b3 161 (prod (exv v8) bl) ((), y5), own 5 u8 v8 y6]
   refine Q7 (Γ' := [(15, val (.pointer (some ⟨b3, 0, none⟩)))]) (H' := [box b3 161 (prod (exv v8) bl) ((), y5), own 5 u8 v8 y6]) .k1 .h2 ?_
   refine rs <| rt <| jm ?_
   obtain ⟨r10, e14, h⟩ := bs h
   refine jc tl1 (XO e14) .h2 fun ⟨v9, v10⟩ => ?_
   refine jx ?_
   refine jx ?_
   refine ja ?_
   refine ja ?_
   refine Qd ?_
   obtain rfl := oi h
   exact Qj fun a w hst => JX hst rfl (.cons (.tmp rfl) <| .cons (.tmp rfl) <| .nil) rfl v10 (fun _ _ h => h) (.cons (.next (.next .here)) <| .nil)
theorem BE {G : GP} (hg0 : HG0 G) (hg1 : HG1 G) (hg2 : HG2 G) {p_t : Option QF} {p_q : Int} {p_message : List (BitVec 8)} {r : (List (BitVec 8)) × Int} (h : VN p_t p_q p_message = some r) : Ctr Tryz.prog G 89 [(ptr QP).slot p_t, i64.slot p_q, (sl u8).slot p_message] [] (fun (u0 : Value) => tup [ov u0, i64.slot r.2]) (fun (u0 : Value) => [own 5 u8 u0 r.1]) := by
 unfold VN at h
 refine Ql Tryz.func89 rfl 84 rfl rfl fun m0 w0 b0 => ?_
 show Run _ _ _ [(0, (ptr QP).slot p_t), (1, i64.slot p_q), (2, (sl u8).slot p_message)] _
 refine rs <| rt <| QC (T := 5) u8 rfl fun v1 => ?_
 refine jq (pa Qe) ?_
 refine Qd <| rs <| QH <| rs <| rt <| jm ?_
 refine jq (qy (E := 153) (by kernel_rfl) (ht rfl)) ?_
 refine ja ?_
 refine Qd <| Qm (ht rfl) (fun e1 => ?_) (fun e1 => ?_)
 ·replace h := bt e1 h
  refine rs <| rt <| QC (T := 5) u8 rfl fun v2 => ?_
  refine jq (pa Qe) ?_
  refine Qd ?_
  obtain rfl := oi h
  exact Qj fun a w hst => JX hst rfl (.cons (.tmp rfl) <| .cons (.tmp rfl) <| .nil) rfl v2 (fun _ _ h => h) .h1
 ·replace h := bf e1 h
  refine rs <| rt <| jm ?_
  refine jq (Q5 (ht rfl) Qe) ?_
  refine jm ?_
  obtain ⟨y1, e3, h⟩ := bs h
  refine Ju (ι := Unit) (Γ' := fun _ => [(0, (ptr QP).slot p_t), (1, i64.slot p_q), (2, (sl u8).slot p_message), (23, bl.slot y1)]) (H' := fun _ => []) 5 ?_ fun J => ?_
  ·intro _
   clear e3
   show Jc _ _ _ [(0, (ptr QP).slot p_t), (1, i64.slot p_q), (2, (sl u8).slot p_message), (23, bl.slot y1)] [] _
   refine ja ?_
   refine Qd <| Qm (ht rfl) (fun e5 => ?_) (fun e5 => ?_)
   ·replace h := bt e5 h
    refine rs <| rt <| QC (T := 5) u8 rfl fun v3 => ?_
    refine jq (pa Qe) ?_
    refine Qd ?_
    obtain rfl := oi h
    exact Qj fun a w hst => JX hst rfl (.cons (.tmp rfl) <| .cons (.tmp rfl) <| .nil) rfl v3 (fun _ _ h => h) .h1
   ·replace h := bf e5 h
    refine Qk <| Qp <| rs ?_
    obtain ⟨x1, e6, h⟩ := bs h
    obtain ⟨x2, e7, h⟩ := bs h
    obtain ⟨x3, e8, h⟩ := bs h
    obtain ⟨r2, e9, h⟩ := bs h
    refine rd (n := 20) (.m rfl <| .p (JY (ht rfl) e6) <| .p (pft (ht rfl) (.t .s .f)) <| .p (plt (ht rfl)) <| .m rfl <| .p (JY (ht rfl) e7) <| .p (pft (ht rfl) (.t .s (.t .s .f))) <| .p (plt (ht rfl)) <| .m rfl <| .p (Jp (k := .u32) (b := 32) rfl rfl (by kernel_rfl) (ht rfl) Qg) <| .m rfl <| .p (JY (ht rfl) e8) <| .p (pft (ht rfl) (.t .s (.t .s (.t .s .f)))) <| .p (plt (ht rfl)) <| .m rfl <| .p (pc tl5 (Ctr.froze2 (QeA hg0 hg1 hg2 e9))) <| .m rfl <| .p (Wo (ht rfl) rfl) <| .p (Wo (ht rfl) rfl) <| .p (pa (ht rfl)) <| .nil) (Ja (Γ' := [(0, (ptr QP).slot p_t), (1, i64.slot p_q), (8, (sl u8).slot r2.1), (42, i64.slot r2.2)]) (H' := []) .k4 (.nil) ?_)
    refine ja ?_
    refine Qd <| rs <| rs <| rt <| jm ?_
    refine jq (Yt (ht rfl) Qe) ?_
    refine Qd <| Qm (ht rfl) (fun e10 => ?_) (fun e10 => ?_)
    ·replace h := bt e10 h
     refine rs <| rt <| jm ?_
     refine QC (T := 5) u8 rfl fun v4 => ?_
     refine ja ?_
     refine Qd ?_
     obtain rfl := oi h
     exact Qj fun a w hst => JX hst rfl (.cons (.tmp rfl) <| .cons (.tmp rfl) <| .nil) rfl v4 (fun _ _ h => h) .h1
    ·replace h := bf e10 h
     refine Qk <| rs <| rt <| jq (J9 (R := prod (exv (.slice none 0 0)) bl) (Qn V0 qu) (by kernel_rfl) (by kernel_rfl) rfl .nil) ?_
     refine Qbe (T1 := 5) u8 (ht rfl) rfl fun b1 v5 => ?_
     refine ja ?_
     refine Qd <| rs <| rt <| jm ?_
     refine jm ?_
     refine jq (Jp (k := .u32) (b := 32) rfl rfl (by kernel_rfl) (ht rfl) Qg) ?_
     obtain ⟨r3, e11, h⟩ := bs h
     refine jc tl2 (Z8 e11) (.cons (.next .here) <| .cons .here <| .nil) fun v6 => ?_
     refine Qd <| rs <| rt <| jm ?_
     refine jm ?_
     obtain ⟨r4, e12, h⟩ := bs h
     refine jc tl2 (J1 e12) .h2 fun v7 => ?_
     refine Qd <| rs <| rt <| jm ?_
     refine jm ?_
     obtain ⟨x4, e13, h⟩ := bs h
     refine jq (JY (ht rfl) e13) ?_
     refine jq (pft (ht rfl) .f) ?_
     refine jl ?_
     refine jq (Jp (k := .u32) (b := 32) rfl rfl (by kernel_rfl) (ht rfl) Qg) ?_
     obtain ⟨r5, e14, h⟩ := bs h
     refine jc tl2 (Z8 e14) .h2 fun v8 => ?_
     refine Qd <| rs <| rs <| rt <| jm ?_
     obtain ⟨r6, e15, h⟩ := bs h
     refine jq (pc tl1 (UK e15)) ?_
     refine jm ?_
     refine jq (QS (ht rfl) (ht rfl)) ?_
     refine ja ?_
     refine Qd ?_
     obtain ⟨⟨y5, y6, y7⟩, e20, h⟩ := bs h
     refine Q2 (Γi := fun (i : Value) (s : Int × Bool × (List (BitVec 8))) => [(0, (ptr QP).slot p_t), (10, val (.pointer (some ⟨b1, 0, none⟩))), (11, i64.slot s.1)]) (Hi := fun (i : Value) (s : Int × Bool × (List (BitVec 8))) => [box b1 161 (prod (exv i) bl) ((), s.2.1), own 5 u8 i s.2.2]) e20 v8 (fun a w hst => (hst.sub .k3).keep .h2) ?_ ?_
     ·clear h e20
      rintro v9 ⟨y2, y3, y4⟩ lr h
      change Xx p_t y2 y3 y4 = some _ at h
      show Run _ _ _ [(0, (ptr QP).slot p_t), (10, val (.pointer (some ⟨b1, 0, none⟩))), (11, i64.slot y2)] [box b1 161 (prod (exv v9) bl) ((), y3), own 5 u8 v9 y4]
      unfold Xx at h
      refine rs <| rs <| rt <| jm ?_
      refine jq (Vd (ht rfl) Qe) ?_
      refine Qd <| Qm (ht rfl) (fun e16 => ?_) (fun e16 => ?_)
      ·replace h := bt e16 h
       refine Qk <| rs <| QH <| rt <| jm ?_
       refine jm ?_
       obtain ⟨x5, e17, h⟩ := bs h
       refine jq (JY (ht rfl) e17) ?_
       refine jq (pft (ht rfl) (.t .s (.t .s (.t .s .s)))) ?_
       refine jl ?_
       refine jm ?_
       refine jq (QjO (ht rfl) Qe) ?_
       obtain ⟨x6, e18, h⟩ := bs h
       refine jq (pix (ht rfl) (ht rfl) Qg e18) ?_
       refine jq (JA (ht rfl) (by decide) (by kernel_rfl)) ?_
       obtain ⟨r7, e19, h⟩ := bs h
       refine jc tl2 (J1 e19) .h2 fun v10 => ?_
       refine Qd <| Qp <| rt <| jm ?_
       refine jq (qt (ht rfl) Qe (by decide)) ?_
       refine ja ?_
       refine Qd ?_
       obtain rfl := oi h
       exact Q0 v10 .k3 .h2
      ·replace h := bf e16 h
       obtain rfl := oi h
       exact Je v9 .k3 .h2
     ·rintro v11
      show Run _ _ _ [(0, (ptr QP).slot p_t), (10, val (.pointer (some ⟨b1, 0, none⟩))), (11, i64.slot y5)] [box b1 161 (prod (exv v11) bl) ((), y6), own 5 u8 v11 y7]
      refine Q7 (Γ' := [(10, val (.pointer (some ⟨b1, 0, none⟩)))]) (H' := [box b1 161 (prod (exv v11) bl) ((), y6), own 5 u8 v11 y7]) .k1 .h2 ?_
      refine rs <| rt <| jm ?_
      obtain ⟨r8, e21, h⟩ := bs h
      refine jc tl1 (XO e21) .h2 fun ⟨v12, v13⟩ => ?_
      refine jx ?_
      refine jx ?_
      refine ja ?_
      refine ja ?_
      refine Qd ?_
      obtain rfl := oi h
      exact Qj fun a w hst => JX hst rfl (.cons (.tmp rfl) <| .cons (.tmp rfl) <| .nil) rfl v13 (fun _ _ h => h) (.cons (.next (.next .here)) <| .nil)
  ·rcases Jj (decide (p_q < (0 : Int))) with e2 | e2
   ·replace e3 := bt e2 e3
    refine jN e2 ?_
    refine jN e2 ?_
    refine jN e2 ?_
    refine jN e2 ?_
    refine jq (pk1 e2 QQ (oi e3)) ?_
    exact Ja .k4 (.nil) (J ())
   ·replace e3 := bf e2 e3
    refine jz (pm (ht rfl)) e2 ?_
    refine jz (pm (ht rfl)) e2 ?_
    obtain ⟨r1, e4, e3⟩ := bind_some e3
    refine jz (pc tl1 (UK e4)) e2 ?_
    refine jz (Y1 (ht rfl) (ht rfl)) e2 ?_
    refine jq (pk2 e2 (ht rfl) (oi e3)) ?_
    exact Ja .k4 (.nil) (J ())
theorem Qa4 {G : GP} (hg0 : HG0 G) (hg1 : HG1 G) (hg2 : HG2 G) {p_s : Int × Int × Qa × (Option QF) × (Option QF) × Int} {p_n : Int} {p_message : List (BitVec 8)} {b_s : Nat} {r : (Int × Int × Qa × (Option QF) × (Option QF) × Int) × (List (BitVec 8)) × Int} (h : Vz p_s p_n p_message = some r) : Ctr Tryz.prog G 46 [val (.pointer (some ⟨b_s, 0, none⟩)), i64.slot p_n, (sl u8).slot p_message] [box b_s 102 (prod i64 (prod i64 (prod Qb (prod (ptr QP) (prod (ptr QP) i64))))) (p_s.1, p_s.2.1, p_s.2.2.1, p_s.2.2.2.1, p_s.2.2.2.2.1, p_s.2.2.2.2.2)] (fun (u0 : Value) => tup [ov u0, i64.slot r.2.2]) (fun (u0 : Value) => [box b_s 102 (prod i64 (prod i64 (prod Qb (prod (ptr QP) (prod (ptr QP) i64))))) (r.1.1, r.1.2.1, r.1.2.2.1, r.1.2.2.2.1, r.1.2.2.2.2.1, r.1.2.2.2.2.2), own 5 u8 u0 r.2.1]) := by
 unfold Vz at h
 refine Ql Tryz.func46 rfl 81 rfl rfl fun m0 w0 b0 => ?_
 show Run _ _ _ [(0, val (.pointer (some ⟨b_s, 0, none⟩))), (1, i64.slot p_n), (2, (sl u8).slot p_message)] _
 refine rs <| rt <| QC (T := 5) u8 rfl fun v1 => ?_
 refine jq (pa Qe) ?_
 refine Qd <| rs <| QH <| rs <| rt <| jm ?_
 refine jq (Zz (E := 102) (by kernel_rfl) (ht rfl)) ?_
 refine ja ?_
 refine Qd <| YB (ht rfl) rfl ?_
 refine rs <| rt <| jm ?_
 refine jq (Q5 (ht rfl) Qe) ?_
 refine jm ?_
 obtain ⟨y1, e3, h⟩ := bs h
 refine Ju (ι := Unit) (Γ' := fun _ => [(0, val (.pointer (some ⟨b_s, 0, none⟩))), (1, i64.slot p_n), (2, (sl u8).slot p_message), (26, bl.slot y1)]) (H' := fun _ => [box b_s 102 (prod i64 (prod i64 (prod Qb (prod (ptr QP) (prod (ptr QP) i64))))) (p_s.1, p_s.2.1, p_s.2.2.1, p_s.2.2.2.1, p_s.2.2.2.2.1, p_s.2.2.2.2.2)]) 5 ?_ fun J => ?_
 ·intro _
  clear e3
  show Jc _ _ _ [(0, val (.pointer (some ⟨b_s, 0, none⟩))), (1, i64.slot p_n), (2, (sl u8).slot p_message), (26, bl.slot y1)] [box b_s 102 (prod i64 (prod i64 (prod Qb (prod (ptr QP) (prod (ptr QP) i64))))) (p_s.1, p_s.2.1, p_s.2.2.1, p_s.2.2.2.1, p_s.2.2.2.2.1, p_s.2.2.2.2.2)] _
  refine ja ?_
  refine Qd <| Qm (ht rfl) (fun e5 => ?_) (fun e5 => ?_)
  ·replace h := bt e5 h
   refine rs <| rt <| QC (T := 5) u8 rfl fun v2 => ?_
   refine jq (pa Qe) ?_
   refine Qd ?_
   obtain rfl := oi h
   exact Qj fun a w hst => JX hst rfl (.cons (.tmp rfl) <| .cons (.tmp rfl) <| .nil) rfl v2 (fun _ _ h => h) (.cons (.next .here) <| .cons .here <| .nil)
  ·replace h := bf e5 h
   refine Qk <| Qp <| rs ?_
   obtain ⟨e6, h⟩ := QD h
   obtain ⟨e7, h⟩ := QD h
   refine rd (n := 15) (.m rfl <| .m rfl <| .p (Qt (ht rfl)) <| .p (pfp (off := 0) (ht rfl)) <| .p (plb (ht rfl) .here (.t .a .f)) <| .p (Br (ht rfl) (ht rfl) Qg e6) <| .m rfl <| .m rfl <| .p (Qt (ht rfl)) <| .p (pfp (off := 0) (ht rfl)) <| .p (plb (ht rfl) .here (.t .a .f)) <| .p (KU Qe (ht rfl) Qg e7) <| .p (JF (ht rfl) Qe) <| .p (QhA (ht rfl) (ht rfl)) <| .p (pa (ht rfl)) <| .nil) (Ja (Γ' := [(0, val (.pointer (some ⟨b_s, 0, none⟩))), (2, (sl u8).slot p_message), (8, i64.slot (U9 p_n p_s.1)), (40, i64.slot (Qfr p_n (w64 ((XG (1 : Int) p_s.1) - (1 : Int)))))]) (H' := [box b_s 102 (prod i64 (prod i64 (prod Qb (prod (ptr QP) (prod (ptr QP) i64))))) (p_s.1, p_s.2.1, p_s.2.2.1, p_s.2.2.2.1, p_s.2.2.2.2.1, p_s.2.2.2.2.2)]) .k4 .h1 ?_)
   obtain ⟨x1, e8, h⟩ := bs h
   refine jq (PJ.eqv (pa (ht rfl)) (oi e8)) ?_
   refine Qd <| rs <| rt <| jm ?_
   refine jm ?_
   obtain ⟨r2, e9, h⟩ := bs h
   refine jc tl2 (QaR hg0 hg1 hg2 e9) .h1 fun _ => ?_
   refine jm ?_
   refine jx ?_
   refine jx ?_
   refine ja ?_
   refine ja ?_
   refine Qd <| rs <| rs <| rt <| jm ?_
   refine jq (Yt (ht rfl) Qe) ?_
   refine Qd <| Qm (ht rfl) (fun e10 => ?_) (fun e10 => ?_)
   ·replace h := bt e10 h
    refine rs <| rt <| jm ?_
    refine QC (T := 5) u8 rfl fun v3 => ?_
    refine ja ?_
    refine Qd ?_
    obtain rfl := oi h
    exact Qj fun a w hst => JX hst rfl (.cons (.tmp rfl) <| .cons (.tmp rfl) <| .nil) rfl v3 (fun _ _ h => h) (.cons (.next .here) <| .cons .here <| .nil)
   ·replace h := bf e10 h
    refine Qk <| rs <| rt <| jm ?_
    obtain ⟨r3, e11, h⟩ := bs h
    refine jq (pc tl1 (Ctr.froze (WS e11))) ?_
    refine ja ?_
    refine Qd <| rs <| rt <| jm ?_
    refine jq (Qt (ht rfl)) ?_
    refine jq (pfp (off := 34) (ht rfl)) ?_
    refine jq (plb (ht rfl) .here (.t .a (.t .s (.t .s (.t .s .f))))) ?_
    refine jm ?_
    refine jm ?_
    obtain ⟨r4, e12, h⟩ := bs h
    refine jq (pc tl3 (Ctr.froze2 (BE hg0 hg1 hg2 e12))) ?_
    refine jm ?_
    refine jx ?_
    refine jx ?_
    refine ja ?_
    refine ja ?_
    refine Qd <| rs <| rs <| rt <| jm ?_
    refine jq (Yt (ht rfl) Qe) ?_
    refine Qd <| Qm (ht rfl) (fun e13 => ?_) (fun e13 => ?_)
    ·replace h := bt e13 h
     refine rs <| rt <| jm ?_
     refine QC (T := 5) u8 rfl fun v4 => ?_
     refine ja ?_
     refine Qd ?_
     obtain rfl := oi h
     exact Qj fun a w hst => JX hst rfl (.cons (.tmp rfl) <| .cons (.tmp rfl) <| .nil) rfl v4 (fun _ _ h => h) (.cons (.next .here) <| .cons .here <| .nil)
    ·replace h := bf e13 h
     refine Qk <| rs <| rt <| jm ?_
     refine jm ?_
     refine jm ?_
     obtain ⟨r5, e14, h⟩ := bs h
     refine jq (pc tl3 (Ctr.froze2 (BE hg0 hg1 hg2 e14))) ?_
     refine jm ?_
     refine jx ?_
     refine jx ?_
     refine ja ?_
     refine ja ?_
     refine Qd <| rs <| rs <| rt <| jm ?_
     refine jq (Yt (ht rfl) Qe) ?_
     refine Qd <| Qm (ht rfl) (fun e15 => ?_) (fun e15 => ?_)
     ·replace h := bt e15 h
      refine rs <| rt <| jm ?_
      refine QC (T := 5) u8 rfl fun v5 => ?_
      refine ja ?_
      refine Qd ?_
      obtain rfl := oi h
      exact Qj fun a w hst => JX hst rfl (.cons (.tmp rfl) <| .cons (.tmp rfl) <| .nil) rfl v5 (fun _ _ h => h) (.cons (.next .here) <| .cons .here <| .nil)
     ·replace h := bf e15 h
      refine Qk <| rs <| rt <| jq (QO (T := 5) (R := u8) (.cons (Qy (x := 0#8) rfl) (.cons (Qy (x := 0#8) rfl) (.cons (Qy (x := 0#8) rfl) (.cons (Qy (x := 1#8) rfl) .nil)))) rfl (by kernel_rfl) (by kernel_rfl)) ?_
      refine jm ?_
      refine jm ?_
      refine jm ?_
      refine jq (QO (T := 31) (R := (sl u8)) (.cons (ht rfl) (.cons (ht rfl) (.cons (ht rfl) (.cons (ht rfl) .nil)))) rfl (by kernel_rfl) (by kernel_rfl)) ?_
      obtain ⟨r6, e16, h⟩ := bs h
      refine jc tl1 (XL e16) .nil fun v6 => ?_
      refine ja ?_
      refine jq (pa Qe) ?_
      refine Qd ?_
      obtain rfl := oi h
      exact Qj fun a w hst => JX hst rfl (.cons (.tmp rfl) <| .cons (.tmp rfl) <| .nil) rfl v6 (fun _ _ h => h) (.cons (.next .here) <| .cons .here <| .nil)
 ·rcases Jj (decide (p_n < (0 : Int))) with e2 | e2
  ·replace e3 := bt e2 e3
   refine jN e2 ?_
   refine jN e2 ?_
   refine jN e2 ?_
   refine jN e2 ?_
   refine jq (pk1 e2 QQ (oi e3)) ?_
   exact Ja .k4 (.cons (.next .here) <| .nil) (J ())
  ·replace e3 := bf e2 e3
   refine jz (pm (ht rfl)) e2 ?_
   refine jz (pm (ht rfl)) e2 ?_
   obtain ⟨r1, e4, e3⟩ := bind_some e3
   refine jz (VF tl1 (.next .here) (by kernel_rfl) (fun _ => (QaW e4))) e2 ?_
   refine jz (Y1 (ht rfl) (ht rfl)) e2 ?_
   refine jq (pk2 e2 (ht rfl) (oi e3)) ?_
   exact Ja .k4 (.cons (.next .here) <| .nil) (J ())
theorem QfJ {G : GP} (hg0 : HG0 G) (hg1 : HG1 G) (hg2 : HG2 G) {p_s : Int × Int × Qa × (Option QF) × (Option QF) × Int} {p_n : Int} {p_h : JP} {b_s : Nat} {r : (Int × Int × Qa × (Option QF) × (Option QF) × Int) × QB × Int} (h : W9 p_s p_n p_h = some r) : Ctr Tryz.prog G 9 [val (.pointer (some ⟨b_s, 0, none⟩)), i64.slot p_n, Y3.slot p_h] [box b_s 102 (prod i64 (prod i64 (prod Qb (prod (ptr QP) (prod (ptr QP) i64))))) (p_s.1, p_s.2.1, p_s.2.2.1, p_s.2.2.2.1, p_s.2.2.2.2.1, p_s.2.2.2.2.2)] (fun (_ : Unit) => tup [Qh.slot r.2.1, i64.slot r.2.2]) (fun (_ : Unit) => [box b_s 102 (prod i64 (prod i64 (prod Qb (prod (ptr QP) (prod (ptr QP) i64))))) (r.1.1, r.1.2.1, r.1.2.2.1, r.1.2.2.2.1, r.1.2.2.2.2.1, r.1.2.2.2.2.2)]) := by
 unfold W9 at h
 refine Ql Tryz.func9 rfl 34 rfl rfl fun m0 w0 b0 => ?_
 show Run _ _ _ [(0, val (.pointer (some ⟨b_s, 0, none⟩))), (1, i64.slot p_n), (2, Y3.slot p_h)] _
 refine rs <| rt <| jq (QW (ht rfl)) ?_
 refine al (x := ((0, 0, (Vector.replicate 32 (0#8)), (Vector.replicate 32 (0#8))), ([] : List (BitVec 8)))) (R := Qh) (Qn (Qn QG (Qn QG (Qn (QA 32 QK) (QA 32 QK)))) J7) fun b1 => ?_
 refine jq (pa Qe) ?_
 refine Qd <| rs <| rt <| jl ?_
 obtain ⟨r1, e1, h⟩ := bs h
 refine jq (pc tl1 (Ctr.froze2 (qY e1))) ?_
 refine jm ?_
 refine jx ?_
 refine jx ?_
 refine ja ?_
 refine ja ?_
 refine Qd <| rs <| rs <| rt <| jm ?_
 refine jq (Yt (ht rfl) Qe) ?_
 refine Qd <| Qm (ht rfl) (fun e2 => ?_) (fun e2 => ?_)
 ·replace h := bt e2 h
  refine rs <| rt <| jq (J9 (R := Qh) (Qn (Qn QG (Qn QG (Qn (QA 32 QK) (QA 32 QK)))) J7) (by kernel_rfl) (by kernel_rfl) rfl .nil) ?_
  refine jm ?_
  obtain ⟨x1, e3, h⟩ := bs h
  refine Yl (r' := x1) (ht rfl) (ht rfl) .here .a (by kernel_rfl) (oi e3) ?_
  refine ja ?_
  refine Qd ?_
  obtain rfl := oi h
  exact Qj fun a w hst => JX hst rfl (.cons (.cell rfl .here (by kernel_rfl)) <| .cons (.tmp rfl) <| .nil) rfl () (fun _ _ h => h) (.cons (.next .here) <| .nil)
 ·replace h := bf e2 h
  refine Qk <| rs <| rt <| jm ?_
  refine jm ?_
  refine jm ?_
  obtain ⟨r2, e4, h⟩ := bs h
  refine jc tl3 (Qa4 hg0 hg1 hg2 e4) (.cons (.next .here) <| .nil) fun v1 => ?_
  refine jm ?_
  refine jx ?_
  refine jx ?_
  refine ja ?_
  refine ja ?_
  refine Qd <| rs <| rs <| rt <| jm ?_
  refine jq (Yt (ht rfl) Qe) ?_
  refine Qd <| Qm (ht rfl) (fun e5 => ?_) (fun e5 => ?_)
  ·replace h := bt e5 h
   refine rs <| rt <| jq (J9 (R := Qh) (Qn (Qn QG (Qn QG (Qn (QA 32 QK) (QA 32 QK)))) J7) (by kernel_rfl) (by kernel_rfl) rfl .nil) ?_
   refine jm ?_
   obtain ⟨x2, e6, h⟩ := bs h
   refine Yl (r' := x2) (ht rfl) (ht rfl) (.next (.next .here)) .a (by kernel_rfl) (oi e6) ?_
   refine ja ?_
   refine Qd ?_
   obtain rfl := oi h
   exact Qj fun a w hst => JX hst rfl (.cons (.cell rfl .here (by kernel_rfl)) <| .cons (.tmp rfl) <| .nil) rfl () (fun _ _ h => h) (.cons (.next .here) <| .nil)
  ·replace h := bf e5 h
   refine Qk <| rs <| rt <| jl ?_
   refine jm ?_
   refine B6 [10, 25, 32] (.next .here) (Za (.of_lk rfl) <| Za (.of_lk rfl) <| Za (.of_lk rfl) <| U2) ?_
   obtain ⟨x3, e7, h⟩ := bs h
   refine jq (PJ.eqv (J9 (R := Qh) (Qn (Qn QG (Qn QG (Qn (QA 32 QK) (QA 32 QK)))) J7) (by kernel_rfl) (by kernel_rfl) rfl (.cons (ht rfl) .f (by kernel_rfl) (.cons (ht rfl) .s (by kernel_rfl) .nil))) (oi e7)) ?_
   refine jk (r' := x3) (ht rfl) (ht rfl) (.next .here) .a ?_
   refine jq (pa Qe) ?_
   refine Qd ?_
   obtain rfl := oi h
   exact Qj fun a w hst => JX hst rfl (.cons (.cell rfl .here (by kernel_rfl)) <| .cons (.tmp rfl) <| .nil) rfl () (fun _ _ h => h) (.cons (.next .here) <| .nil)
end Go.Sl.W
