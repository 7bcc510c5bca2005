import Derived.Test.YtheldkljmefbaaaGreatDoorG5
import Derived.Test.YtheldkljmefbaaaGreatDoorG4
import Derived.Test.YtheldkljmefbaaaGreatDoorProg
set_option linter.unusedSimpArgs false
set_option linter.unusedVariables false
set_option linter.unusedSectionVars false
namespace Go.Sl.W
open Go.Proofs Go.Sl Go.Sl.M
set_option maxHeartbeats 4000000
set_option maxRecDepth 100000
theorem Ve {G : GP} {p_r : (List (BitVec 8)) × Bool} {b_r : Nat} {c_r : List Value} {r : Bool} (h : Vb p_r = some r) : Ctr Tryz.prog G 170 [val (.pointer (some ⟨b_r, 0, none⟩))] [box b_r 208 (exr (prod (sl u8) bl) c_r) (p_r.1, p_r.2)] (fun (_ : Unit) => bl.slot r) (fun (_ : Unit) => [box b_r 208 (exr (prod (sl u8) bl) c_r) (p_r.1, p_r.2)]) := by
 unfold Vb at h
 refine Qp Tryz.func170 rfl 11 rfl rfl fun m0 w0 b0 => ?_
 show Run _ _ _ [(0, val (.pointer (some ⟨b_r, 0, none⟩)))] _
 refine rs <| rt <| jq (PJ.xw (.ex .refl) (pa QU)) ?_
 refine Qd <| rs <| rt <| jq (PJ.xw (.ex .refl) (pm (ht rfl))) ?_
 obtain ⟨r1, e1, h⟩ := bs h
 refine jq (PJ.xw (.ex .refl) (Vo tl1 .here (by kernel_rfl) (fun _ => (UM e1)))) ?_
 refine jq (PJ.xw (.ex .refl) (ZI (ht rfl))) ?_
 refine jq (PJ.xw (.ex .refl) (pm (ht rfl))) ?_
 obtain ⟨y1, e3, h⟩ := bs h
 refine Jz (ι := Unit) (Γ' := fun _ => [(10, bl.slot y1)]) (H' := fun _ => [box b_r 208 (exr (prod (sl u8) bl) c_r) (p_r.1, p_r.2)]) 4 ?_ fun J => ?_
 ·intro _
  clear e3
  show Jc _ _ _ [(10, bl.slot y1)] [box b_r 208 (exr (prod (sl u8) bl) c_r) (p_r.1, p_r.2)] _
  refine jq (PJ.xw (.ex .refl) (pa (ht rfl))) ?_
  refine Qd ?_
  obtain rfl := oi h
  exact Qo fun a w hst => QL hst rfl (.tmp rfl) () (fun _ _ h => h) .h1
 ·rcases Jl (!r1) with e2 | e2
  ·replace e3 := bt e2 e3
   refine jz (PJ.xw (.ex .refl) (pm (ht rfl))) e2 ?_
   obtain ⟨r2, e4, e3⟩ := bind_some e3
   refine jz (PJ.xw (.ex .refl) (Vo tl1 .here (by kernel_rfl) (fun _ => (Wb e4)))) e2 ?_
   refine jz (PJ.xw (.ex .refl) (ZJ (ht rfl) Qe)) e2 ?_
   refine jq (pk1 e2 (ht rfl) (oi e3)) ?_
   exact Je .k1 .h1 (J ())
  ·replace e3 := bf e2 e3
   refine jn e2 ?_
   refine jn e2 ?_
   refine jn e2 ?_
   refine jq (pk2 e2 QU (oi e3)) ?_
   exact Je .k1 .h1 (J ())
theorem QdK {G : GP} (hg0 : HG0 G) {p_b : List (BitVec 8)} {p_height : Int} {p_kind : Int} {r : UD × Bool} (h : Kr p_b p_height p_kind = some r) : Ctr Tryz.prog G 143 [(sl u8).slot p_b, i64.slot p_height, i64.slot p_kind] [] (fun (_ : Unit) => tup [QY.slot r.1, bl.slot r.2]) (fun (_ : Unit) => []) := by
 unfold Kr at h
 refine Qp Tryz.func143 rfl 68 rfl rfl fun m0 w0 b0 => ?_
 show Run _ _ _ [(0, (sl u8).slot p_b), (1, i64.slot p_height), (2, i64.slot p_kind)] _
 refine rs <| rt <| al (x := (0, ([] : List (BitVec 8)), ([] : List Qa))) (R := QY) (Qk Qx (Qk Jp Jp)) fun b1 => ?_
 refine jq (pa QU) ?_
 refine Qd <| rs <| rs <| rt <| jm ?_
 refine jq (QX (sz := 1) (ht rfl) (by kernel_rfl)) ?_
 refine jm ?_
 refine jm ?_
 obtain ⟨r1, e1, h⟩ := bs h
 refine jq (pc tl2 (qZ hg0 e1)) ?_
 refine jq (YG (ht rfl) (ht rfl)) ?_
 refine Qd <| Qn (ht rfl) (fun e2 => ?_) (fun e2 => ?_)
 ·replace h := bt e2 h
  refine rs <| rt <| jq (JZ (R := QY) (Qk Qx (Qk Jp Jp)) (by kernel_rfl) (by kernel_rfl) rfl .nil) ?_
  obtain ⟨x1, e3, h⟩ := bs h
  refine ZF (r' := x1) (ht rfl) (ht rfl) .here .a (by kernel_rfl) (oi e3) ?_
  refine jq (pa QU) ?_
  refine Qd ?_
  obtain rfl := oi h
  exact Qo fun a w hst => JV hst rfl (.cons (.cell rfl .here (by kernel_rfl)) <| .cons (.tmp rfl) <| .nil) rfl () (fun _ _ h => h) (.nil)
 ·replace h := bf e2 h
  refine Qm <| rs <| rt <| jm ?_
  obtain ⟨r2, e4, h⟩ := bs h
  refine jc tl1 (Ui e4) .nil fun b2 => ?_
  refine ja ?_
  refine Qd <| rs <| rt <| jm ?_
  obtain ⟨r3, e5, h⟩ := bs h
  refine jc tl1 (Zk e5) .h1 fun _ => ?_
  refine jq (YQ (by decide) (by kernel_rfl) (ht rfl)) ?_
  refine jm ?_
  refine jm ?_
  obtain ⟨r4, e6, h⟩ := bs h
  refine jq (pc tl1 (W9 hg0 e6)) ?_
  obtain ⟨r5, e7, h⟩ := bs h
  refine jc tl2 (Zf e7) .h1 fun _ => ?_
  refine KE 23 Qb none (jq (qf (R := (prod i64 (prod (sl u8) (exv (.slice none 0 0))))) (x := (0, ([] : List (BitVec 8)), ())) (Qk Qx (Qk Jp X4)) (by kernel_rfl) (by kernel_rfl) rfl (.cons (ht rfl) (KQ (x1 := ((r3.2.toNat : Int), ([] : List (BitVec 8)), ())) .f rfl) (by kernel_rfl) (.cons (ht rfl) (KQ (x1 := ((r3.2.toNat : Int), r5.2, ())) (.t .s .f) rfl) (by kernel_rfl) .nil))) ?_)
  refine al (x := (0, ([] : List (BitVec 8)), ())) (R := (prod i64 (prod (sl u8) (exv (.slice none 0 0))))) (Qk Qx (Qk Jp X4)) fun b3 => ?_
  refine Qbw (ht rfl) (ht rfl) .here (by kernel_rfl) (by kernel_rfl) ?_
  refine Qd <| rs <| rt <| jm ?_
  obtain ⟨r6, e8, h⟩ := bs h
  refine jc tl1 (Zk e8) (.cons (.next (.next .here)) <| .nil) fun _ => ?_
  refine jq (YQ (by decide) (by kernel_rfl) (ht rfl)) ?_
  refine ja ?_
  refine Qd <| rs <| rs <| rt <| jm ?_
  refine jq (pm Qe) ?_
  refine Qd ?_
  obtain ⟨⟨y5, y6, y7, y8⟩, e13, h⟩ := bs h
  refine Q2 (Γi := fun (i : Value) (s : Int × (List (BitVec 8)) × Bool × (List Qa)) => [(1, i64.slot p_height), (2, i64.slot p_kind), (6, val (.pointer (some ⟨b1, 0, none⟩))), (8, val (.pointer (some ⟨b2, 0, none⟩))), (9, val (.pointer (some ⟨b3, 0, none⟩))), (10, i64.slot (r6.2.toNat : Int)), (31, i64.slot p_height), (32, i64.slot s.1)]) (Hi := fun (i : Value) (s : Int × (List (BitVec 8)) × Bool × (List Qa)) => [box b2 208 (prod (sl u8) bl) (s.2.1, s.2.2.1), box b3 211 (prod i64 (prod (sl u8) (exv i))) ((r3.2.toNat : Int), r5.2, ()), own 23 Qb i s.2.2.2, box b1 211 QY (0, ([] : List (BitVec 8)), ([] : List Qa))]) e13 (.slice none 0 0) (fun a w hst => (hst.sub .k8).keep .h4) ?_ ?_
  ·clear h e13
   rintro v1 ⟨y1, y2, y3, y4⟩ lr h
   change XS p_height y1 y2 y3 y4 = some _ at h
   show Run _ _ _ [(1, i64.slot p_height), (2, i64.slot p_kind), (6, val (.pointer (some ⟨b1, 0, none⟩))), (8, val (.pointer (some ⟨b2, 0, none⟩))), (9, val (.pointer (some ⟨b3, 0, none⟩))), (10, i64.slot (r6.2.toNat : Int)), (31, i64.slot p_height), (32, i64.slot y1)] [box b2 208 (prod (sl u8) bl) (y2, y3), box b3 211 (prod i64 (prod (sl u8) (exv v1))) ((r3.2.toNat : Int), r5.2, ()), own 23 Qb v1 y4, box b1 211 QY (0, ([] : List (BitVec 8)), ([] : List Qa))]
   unfold XS at h
   refine rs <| rt <| jq (Q7 (ht rfl) (ht rfl)) ?_
   refine Qd <| rs <| Qn (ht rfl) (fun e9 => ?_) (fun e9 => ?_)
   ·replace h := bt e9 h
    refine Qm <| rs <| QJ ?_
    obtain ⟨r7, e10, h⟩ := bs h
    obtain ⟨x2, e11, h⟩ := bs h
    refine Xn (H' := [box b2 208 (prod (sl u8) bl) (y2, y3), box b3 211 (prod i64 (prod (sl u8) (exv v1))) ((r3.2.toNat : Int), r5.2, ()), own 23 Qb v1 y4, box b1 211 QY (0, ([] : List (BitVec 8)), ([] : List Qa))]) .h4 ?_
    refine rdL (n := 7) (H := [box b3 211 (prod i64 (prod (sl u8) (exv v1))) ((r3.2.toNat : Int), r5.2, ()), own 23 Qb v1 y4, box b1 211 QY (0, ([] : List (BitVec 8)), ([] : List Qa))]) (Ls := [⟨[box b2 208 (prod (sl u8) bl) (y2, y3)], [(3, ⟨Unit, fun (_ : Unit) => [box b2 208 (prod (sl u8) bl) (r7.1.1, r7.1.2)], fun (_ : Unit) => [(37, (sl u8).slot r7.2)]⟩)]⟩]) (.p (pfp (off := 2) (ht rfl)) <| .p (plb (ht rfl) .here (.t .a (.t .s .s))) <| .m rfl <| .step 0 rfl .here (.inl rfl) (fun i => ⟨_, _, fun _ => (), (wc (hc (ht rfl) <| hc Qe <| Q3) (Zf e10) .h1), fun _ => rfl, Qcp, Bh⟩) <| .p (Qau (e := 5) (ht rfl) e11 rfl (by kernel_rfl)) <| .p (plt (ht rfl)) <| .p (QT (T := 23) (R := Qb) (.cons (ht rfl) .nil) rfl (by kernel_rfl) (by kernel_rfl)) <| .nil) ?_
    rintro _
    refine Je (Γ' := [(1, i64.slot p_height), (2, i64.slot p_kind), (6, val (.pointer (some ⟨b1, 0, none⟩))), (8, val (.pointer (some ⟨b2, 0, none⟩))), (9, val (.pointer (some ⟨b3, 0, none⟩))), (10, i64.slot (r6.2.toNat : Int)), (31, i64.slot p_height), (32, i64.slot y1), (35, ov v1), (40, (sl Qb).slot ([x2]))]) (H' := [box b2 208 (prod (sl u8) bl) (r7.1.1, r7.1.2), box b3 211 (prod i64 (prod (sl u8) (exv v1))) ((r3.2.toNat : Int), r5.2, ()), own 23 Qb v1 y4, box b1 211 QY (0, ([] : List (BitVec 8)), ([] : List Qa))]) .k10 .h4 ?_
    obtain ⟨e12, h⟩ := QS h
    refine JQ (T := 23) (E := 23) (ht rfl) (.next (.next .here)) (JE (ht rfl)) (by kernel_rfl) (by kernel_rfl) e12 rfl fun v2 => ?_
    refine jq (pfp (off := 2) (ht rfl)) ?_
    refine U4 ((r3.2.toNat : Int), r5.2, ()) (ht rfl) (ht rfl) (.next (.next .here)) (KV i64 (r3.2.toNat : Int) (KV (sl u8) r5.2 qa)) (by kernel_rfl) ?_
    refine Qd <| Qs <| rt <| jq (QW (ht rfl) Qe) ?_
    refine jm ?_
    refine Qd ?_
    obtain rfl := oi h
    exact QZ v2 .k8 (.cons (.next (.next .here)) <| .cons .here <| .cons .here <| .cons .here <| .nil)
   ·replace h := bf e9 h
    obtain rfl := oi h
    exact Jf v1 .k8 .h4
  ·rintro v3
   show Run _ _ _ [(1, i64.slot p_height), (2, i64.slot p_kind), (6, val (.pointer (some ⟨b1, 0, none⟩))), (8, val (.pointer (some ⟨b2, 0, none⟩))), (9, val (.pointer (some ⟨b3, 0, none⟩))), (10, i64.slot (r6.2.toNat : Int)), (31, i64.slot p_height), (32, i64.slot y5)] [box b2 208 (prod (sl u8) bl) (y6, y7), box b3 211 (prod i64 (prod (sl u8) (exv v3))) ((r3.2.toNat : Int), r5.2, ()), own 23 Qb v3 y8, box b1 211 QY (0, ([] : List (BitVec 8)), ([] : List Qa))]
   refine Q9 (Γ' := [(1, i64.slot p_height), (2, i64.slot p_kind), (6, val (.pointer (some ⟨b1, 0, none⟩))), (8, val (.pointer (some ⟨b2, 0, none⟩))), (9, val (.pointer (some ⟨b3, 0, none⟩))), (10, i64.slot (r6.2.toNat : Int))]) (H' := [box b2 208 (prod (sl u8) bl) (y6, y7), box b3 211 (prod i64 (prod (sl u8) (exv v3))) ((r3.2.toNat : Int), r5.2, ()), own 23 Qb v3 y8, box b1 211 QY (0, ([] : List (BitVec 8)), ([] : List Qa))]) .k6 .h4 ?_
   refine rs <| Qar ((r3.2.toNat : Int), r5.2, y8) (.next (.next .here)) (.next .here) (Jt i64 (r3.2.toNat : Int) (Jt (sl u8) r5.2 Xv)) ?_
   obtain ⟨r8, e14, h⟩ := bs h
   obtain ⟨y9, e16, h⟩ := bs h
   obtain ⟨y10, e18, h⟩ := bs h
   obtain ⟨y11, e21, h⟩ := bs h
   refine Xn (H' := [box b1 211 QY (0, ([] : List (BitVec 8)), ([] : List Qa)), box b3 211 QY ((r3.2.toNat : Int), r5.2, y8), box b2 208 (prod (sl u8) bl) (y6, y7)]) (.cons (.next (.next .here)) <| .cons .here <| .cons .here <| .nil) ?_
   refine (ql (n := 25) (Γ' := [(6, val (.pointer (some ⟨b1, 0, none⟩))), (67, bl.slot y11)]) (H' := [box b1 211 QY ((r3.2.toNat : Int), r5.2, y8)]) ?_ fun J => ?_)
   ·clear e16 e18 e21
    refine ja ?_
    refine Qd ?_
    obtain rfl := oi h
    exact Qo fun a w hst => JV hst rfl (.cons (.cell rfl .here (by kernel_rfl)) <| .cons (.tmp rfl) <| .nil) rfl () (fun _ _ h => h) (.nil)
   ·rcases Jl (r8) with e15 | e15
    ·replace e16 := bt e15 e16
     rcases Jl (y9) with e17 | e17
     ·replace e18 := bt e17 e18
      obtain ⟨e19, e18⟩ := QS e18
      rcases Jl (y10) with e20 | e20
      ·replace e21 := bt e20 e21
       obtain ⟨r9, e22, e21⟩ := bind_some e21
       obtain ⟨r10, e23, e21⟩ := bind_some e21
       exact rdL (n := 25) (H := [box b3 211 QY ((r3.2.toNat : Int), r5.2, y8), box b2 208 (prod (sl u8) bl) (y6, y7)]) (Ls := [⟨[box b1 211 QY (0, ([] : List (BitVec 8)), ([] : List Qa))], [(24, ⟨Unit, fun (_ : Unit) => [box b1 211 QY ((r3.2.toNat : Int), r5.2, y8)], fun (_ : Unit) => []⟩)]⟩, ⟨[], [(18, ⟨Nat, fun (b4 : Nat) => [box b4 208 (prod (sl u8) bl) (r9.1, r9.2)], fun (b4 : Nat) => [(62, val (.pointer (some ⟨b4, 0, none⟩)))]⟩), (19, ⟨Nat, fun (b4 : Nat) => [box b4 208 (prod (sl u8) bl) (r10.1.1, r10.1.2)], fun (b4 : Nat) => [(63, u32.slot r10.2), (62, val (.pointer (some ⟨b4, 0, none⟩)))]⟩)]⟩]) (.p (plb (ht rfl) .here .a) <| .m rfl <| .p (Vo tl1 (.next .here) (by kernel_rfl) (fun _ => (Ve e14))) <| .m rfl <| .read rfl (.yes (gY e15) (pm (ht rfl))) <| .read rfl (.yes (gY e15) (pm (ht rfl))) <| .read rfl (.yes (gY e15) (ZJ (ht rfl) (ht rfl))) <| .p (pk1 e15 (ht rfl) (oi e16)) <| .m rfl <| .read rfl (.yes (gY e17) (pfp (off := 0) (ht rfl))) <| .read rfl (.yes (gY e17) (plb (ht rfl) .here (.t .a .f))) <| .read rfl (.yes (gY e17) (pm (ht rfl))) <| .read rfl (.yes (gY e17) (KR Qe (ht rfl) Qh e19)) <| .read rfl (.yes (gY e17) (Q7 (ht rfl) (ht rfl))) <| .p (pk1 e17 (ht rfl) (oi e18)) <| .m rfl <| .read rfl (.yes (gY e20) (pfp (off := 1) (ht rfl))) <| .read rfl (.yes (gY e20) (plb (ht rfl) .here (.t .a (.t .s .f)))) <| .step 1 rfl .here (.inr (gY e20)) (fun i => ⟨_, _, fun j => j, (wc tl1 (Ui e22) .nil), fun _ => rfl, VJ, Bh⟩) <| .step 1 rfl (.next .here) (.inr (gY e20)) (fun i => ⟨_, _, fun _ => i, (wc tl1 (Zk e23) .h1), fun _ => rfl, Qcp, Bh⟩) <| .read rfl (.yes (gY e20) (YQ (by decide) (by kernel_rfl) (ht rfl))) <| .read rfl (.yes (gY e20) (pm (ht rfl))) <| .read rfl (.yes (gY e20) (ZJ (ht rfl) (ht rfl))) <| .p (pk1 e20 (ht rfl) (oi e21)) <| .step 0 rfl .here (.inl rfl) (fun i => ⟨_, _, fun _ => (), (qd (r' := ((r3.2.toNat : Int), r5.2, y8)) (ht rfl) (ht rfl) .here .a (by kernel_rfl) rfl), fun _ => rfl, (Qba (s := any)), QhG⟩) <| .nil) (fun _ b4 => Je (Γ' := [(6, val (.pointer (some ⟨b1, 0, none⟩))), (67, bl.slot y11)]) (H' := [box b1 211 QY ((r3.2.toNat : Int), r5.2, y8)]) .k2 .h1 J)
      ·replace e21 := bf e20 e21
       exact rdL (n := 25) (H := [box b3 211 QY ((r3.2.toNat : Int), r5.2, y8), box b2 208 (prod (sl u8) bl) (y6, y7)]) (Ls := [⟨[box b1 211 QY (0, ([] : List (BitVec 8)), ([] : List Qa))], [(24, ⟨Unit, fun (_ : Unit) => [box b1 211 QY ((r3.2.toNat : Int), r5.2, y8)], fun (_ : Unit) => []⟩)]⟩]) (.p (plb (ht rfl) .here .a) <| .m rfl <| .p (Vo tl1 (.next .here) (by kernel_rfl) (fun _ => (Ve e14))) <| .m rfl <| .read rfl (.yes (gY e15) (pm (ht rfl))) <| .read rfl (.yes (gY e15) (pm (ht rfl))) <| .read rfl (.yes (gY e15) (ZJ (ht rfl) (ht rfl))) <| .p (pk1 e15 (ht rfl) (oi e16)) <| .m rfl <| .read rfl (.yes (gY e17) (pfp (off := 0) (ht rfl))) <| .read rfl (.yes (gY e17) (plb (ht rfl) .here (.t .a .f))) <| .read rfl (.yes (gY e17) (pm (ht rfl))) <| .read rfl (.yes (gY e17) (KR Qe (ht rfl) Qh e19)) <| .read rfl (.yes (gY e17) (Q7 (ht rfl) (ht rfl))) <| .p (pk1 e17 (ht rfl) (oi e18)) <| .m rfl <| .read rfl (.no (gN e20)) <| .read rfl (.no (gN e20)) <| .read rfl (.no (gN e20)) <| .read rfl (.no (gN e20)) <| .read rfl (.no (gN e20)) <| .read rfl (.no (gN e20)) <| .read rfl (.no (gN e20)) <| .p (pk2 e20 QU (oi e21)) <| .step 0 rfl .here (.inl rfl) (fun i => ⟨_, _, fun _ => (), (qd (r' := ((r3.2.toNat : Int), r5.2, y8)) (ht rfl) (ht rfl) .here .a (by kernel_rfl) rfl), fun _ => rfl, (Qba (s := any)), QhG⟩) <| .nil) (fun _ => Je (Γ' := [(6, val (.pointer (some ⟨b1, 0, none⟩))), (67, bl.slot y11)]) (H' := [box b1 211 QY ((r3.2.toNat : Int), r5.2, y8)]) .k2 .h1 J)
     ·replace e18 := bf e17 e18
      rcases Jl (y10) with e20 | e20
      ·exact absurd ((oi e18).trans e20) (by decide)
      ·replace e21 := bf e20 e21
       exact rdL (n := 25) (H := [box b3 211 QY ((r3.2.toNat : Int), r5.2, y8), box b2 208 (prod (sl u8) bl) (y6, y7)]) (Ls := [⟨[box b1 211 QY (0, ([] : List (BitVec 8)), ([] : List Qa))], [(24, ⟨Unit, fun (_ : Unit) => [box b1 211 QY ((r3.2.toNat : Int), r5.2, y8)], fun (_ : Unit) => []⟩)]⟩]) (.p (plb (ht rfl) .here .a) <| .m rfl <| .p (Vo tl1 (.next .here) (by kernel_rfl) (fun _ => (Ve e14))) <| .m rfl <| .read rfl (.yes (gY e15) (pm (ht rfl))) <| .read rfl (.yes (gY e15) (pm (ht rfl))) <| .read rfl (.yes (gY e15) (ZJ (ht rfl) (ht rfl))) <| .p (pk1 e15 (ht rfl) (oi e16)) <| .m rfl <| .read rfl (.no (gN e17)) <| .read rfl (.no (gN e17)) <| .read rfl (.no (gN e17)) <| .read rfl (.no (gN e17)) <| .read rfl (.no (gN e17)) <| .p (pk2 e17 QU (oi e18)) <| .m rfl <| .read rfl (.no (gN e20)) <| .read rfl (.no (gN e20)) <| .read rfl (.no (gN e20)) <| .read rfl (.no (gN e20)) <| .read rfl (.no (gN e20)) <| .read rfl (.no (gN e20)) <| .read rfl (.no (gN e20)) <| .p (pk2 e20 QU (oi e21)) <| .step 0 rfl .here (.inl rfl) (fun i => ⟨_, _, fun _ => (), (qd (r' := ((r3.2.toNat : Int), r5.2, y8)) (ht rfl) (ht rfl) .here .a (by kernel_rfl) rfl), fun _ => rfl, (Qba (s := any)), QhG⟩) <| .nil) (fun _ => Je (Γ' := [(6, val (.pointer (some ⟨b1, 0, none⟩))), (67, bl.slot y11)]) (H' := [box b1 211 QY ((r3.2.toNat : Int), r5.2, y8)]) .k2 .h1 J)
    ·replace e16 := bf e15 e16
     rcases Jl (y9) with e17 | e17
     ·exact absurd ((oi e16).trans e17) (by decide)
     ·replace e18 := bf e17 e18
      rcases Jl (y10) with e20 | e20
      ·exact absurd ((oi e18).trans e20) (by decide)
      ·replace e21 := bf e20 e21
       exact rdL (n := 25) (H := [box b3 211 QY ((r3.2.toNat : Int), r5.2, y8), box b2 208 (prod (sl u8) bl) (y6, y7)]) (Ls := [⟨[box b1 211 QY (0, ([] : List (BitVec 8)), ([] : List Qa))], [(24, ⟨Unit, fun (_ : Unit) => [box b1 211 QY ((r3.2.toNat : Int), r5.2, y8)], fun (_ : Unit) => []⟩)]⟩]) (.p (plb (ht rfl) .here .a) <| .m rfl <| .p (Vo tl1 (.next .here) (by kernel_rfl) (fun _ => (Ve e14))) <| .m rfl <| .read rfl (.no (gN e15)) <| .read rfl (.no (gN e15)) <| .read rfl (.no (gN e15)) <| .p (pk2 e15 QU (oi e16)) <| .m rfl <| .read rfl (.no (gN e17)) <| .read rfl (.no (gN e17)) <| .read rfl (.no (gN e17)) <| .read rfl (.no (gN e17)) <| .read rfl (.no (gN e17)) <| .p (pk2 e17 QU (oi e18)) <| .m rfl <| .read rfl (.no (gN e20)) <| .read rfl (.no (gN e20)) <| .read rfl (.no (gN e20)) <| .read rfl (.no (gN e20)) <| .read rfl (.no (gN e20)) <| .read rfl (.no (gN e20)) <| .read rfl (.no (gN e20)) <| .p (pk2 e20 QU (oi e21)) <| .step 0 rfl .here (.inl rfl) (fun i => ⟨_, _, fun _ => (), (qd (r' := ((r3.2.toNat : Int), r5.2, y8)) (ht rfl) (ht rfl) .here .a (by kernel_rfl) rfl), fun _ => rfl, (Qba (s := any)), QhG⟩) <| .nil) (fun _ => Je (Γ' := [(6, val (.pointer (some ⟨b1, 0, none⟩))), (67, bl.slot y11)]) (H' := [box b1 211 QY ((r3.2.toNat : Int), r5.2, y8)]) .k2 .h1 J)
theorem WO {G : GP} {Sy : Type} {p_f : Jy} {p_b : List (BitVec 8)} {yl : Sy → Int → Option Sy} {s0 : Sy} {L : Nat} {rc : Loop} {E : Sy → Ent} {r : Sy} (hY : ∀ s d s', yl s d = some s' → Qag Tryz.prog G L rc (i64.slot d) (E s) (E s')) (h : X1 p_f p_b yl s0 = some r) : Qgs Tryz.prog G L rc 184 [QC.slot p_f, (sl u8).slot p_b, val (yv L)] [E s0] (fun (_ : Unit) => tup []) (fun (_ : Unit) => [E r]) := by
 unfold X1 at h
 refine Wq Tryz.func184 rfl 35 rfl rfl fun m0 w0 b0 hl hb => ?_
 show Run _ _ _ [(0, QC.slot p_f), (1, (sl u8).slot p_b), (2, val (yv L))] _
 refine rs <| rt <| jq (Q0 (ht rfl)) ?_
 refine Qd <| rs <| rt <| jm ?_
 refine jq (QX (sz := 1) (ht rfl) (by kernel_rfl)) ?_
 refine jq (pm Qe) ?_
 refine Qd ?_
 obtain ⟨⟨y8, y9⟩, e9, h⟩ := bs h
 refine Q2 (Γi := fun (i : Unit) (s : Int × Sy) => [(2, val (yv L)), (3, Qt QC p_f), (9, (sl u8).slot p_b), (10, i64.slot (p_b.length : Int)), (11, i64.slot s.1)]) (Hi := fun (i : Unit) (s : Int × Sy) => [E s.2]) e9 () (fun a w hst => (hst.sub .k5).keep .h1) ?_ ?_
 ·clear h e9
  rintro _ ⟨y1, y2⟩ lr h
  change Yz p_b p_f yl y1 y2 = some _ at h
  show Run _ _ _ [(2, val (yv L)), (3, Qt QC p_f), (9, (sl u8).slot p_b), (10, i64.slot (p_b.length : Int)), (11, i64.slot y1)] [E y2]
  unfold Yz at h
  refine rs <| rt <| jq (Q7 (ht rfl) (ht rfl)) ?_
  refine Qd <| rs <| Qn (ht rfl) (fun e1 => ?_) (fun e1 => ?_)
  ·replace h := bt e1 h
   refine Qm <| rs <| QJ <| rs <| rt ?_
   obtain ⟨x1, e2, h⟩ := bs h
   refine jq (pix (ht rfl) (ht rfl) Qh e2) ?_
   refine jl ?_
   refine ja ?_
   refine Qd <| rs <| rt <| jq (pft (ht rfl) .f) ?_
   refine jl ?_
   refine jq (JS Qe (ht rfl)) ?_
   refine ja ?_
   refine Qd ?_
   obtain ⟨⟨y6, y7⟩, e8, h⟩ := bs h
   refine Q2 (Γi := fun (i : Unit) (s : Int × Sy) => [(2, val (yv L)), (3, Qt QC p_f), (7, u8.slot x1), (8, i64.slot s.1), (9, (sl u8).slot p_b), (10, i64.slot (p_b.length : Int)), (11, i64.slot y1)]) (Hi := fun (i : Unit) (s : Int × Sy) => [E s.2]) e8 () (fun a w hst => (hst.sub .k7).keep .h1) ?_ ?_
   ·clear h e8
    rintro _ ⟨y3, y4⟩ lr h
    change Yu p_f yl x1 y3 y4 = some _ at h
    show Run _ _ _ [(2, val (yv L)), (3, Qt QC p_f), (7, u8.slot x1), (8, i64.slot y3), (9, (sl u8).slot p_b), (10, i64.slot (p_b.length : Int)), (11, i64.slot y1)] [E y4]
    unfold Yu at h
    refine rs <| rs <| rt <| jm ?_
    refine jq (XF (ht rfl) Qe) ?_
    refine Qd <| Qn (ht rfl) (fun e3 => ?_) (fun e3 => ?_)
    ·replace h := bt e3 h
     refine Qm <| rs <| QJ <| rs ?_
     obtain ⟨e4, h⟩ := QS h
     obtain ⟨r1, e5, h⟩ := bs h
     refine rd (n := 8) (.m rfl <| .m rfl <| .p (YQ (by decide) (by kernel_rfl) (ht rfl)) <| .m rfl <| .p (Ba (ht rfl) (ht rfl) Qh e4) <| .p (plt (ht rfl)) <| .p (pc tl1 (VG e5)) <| .p (Qg0 (ht rfl) (ht rfl)) <| .nil) (Je (Γ' := [(2, val (yv L)), (3, Qt QC p_f), (7, u8.slot x1), (8, i64.slot y3), (9, (sl u8).slot p_b), (10, i64.slot (p_b.length : Int)), (11, i64.slot y1), (24, val (yv L)), (31, i64.slot (QfG (UY (x1.toNat : Int) y3) r1))]) (H' := [E y4]) .k9 .h1 ?_)
     obtain ⟨y5, e6, h⟩ := bs h
     refine QgM (ht rfl) (ht rfl) hl hb (hY _ _ _ e6) rfl ?_
     refine jq (ZI (ht rfl)) ?_
     refine Qd <| Yi (ht rfl) rfl ?_
     refine Qm <| Qs <| rt <| jm ?_
     refine jq (pft (ht rfl) .f) ?_
     refine jl ?_
     refine jq (JS (ht rfl) (ht rfl)) ?_
     refine ja ?_
     refine Qd ?_
     obtain rfl := oi h
     exact QZ () .k7 .h1
    ·replace h := bf e3 h
     obtain rfl := oi h
     exact Jf () .k7 .h1
   ·rintro _
    show Run _ _ _ [(2, val (yv L)), (3, Qt QC p_f), (7, u8.slot x1), (8, i64.slot y6), (9, (sl u8).slot p_b), (10, i64.slot (p_b.length : Int)), (11, i64.slot y1)] [E y7]
    refine Q9 (Γ' := [(2, val (yv L)), (3, Qt QC p_f), (9, (sl u8).slot p_b), (10, i64.slot (p_b.length : Int)), (11, i64.slot y1)]) (H' := [E y7]) .k5 .h1 ?_
    refine Qs <| rt <| jq (QW (ht rfl) Qe) ?_
    refine jm ?_
    refine Qd ?_
    obtain rfl := oi h
    exact QZ () .k5 .h1
  ·replace h := bf e1 h
   obtain rfl := oi h
   exact Jf () .k5 .h1
 ·rintro _
  show Run _ _ _ [(2, val (yv L)), (3, Qt QC p_f), (9, (sl u8).slot p_b), (10, i64.slot (p_b.length : Int)), (11, i64.slot y8)] [E y9]
  refine Q9 (Γ' := []) (H' := [E y9]) (.nil) .h1 ?_
  obtain rfl := oi h
  exact YV fun a w hst => Ki hst rfl (.nil) rfl () (fun _ _ h => h) .h1
theorem Qae {G : GP} {Sy : Type} {yl : Sy → Int → Option Sy} {q_0 : Jy} {q_1 : Qa} {s0 : Sy} {L : Nat} {rc : Loop} {E : Sy → Ent} {r : Sy} (hY : ∀ s d s', yl s d = some s' → Qag Tryz.prog G L rc (i64.slot d) (E s) (E s')) (h : V3 yl q_0 q_1 s0 = some r) : Qgs Tryz.prog G L rc 187 [val (yv L), Qt QC q_0, Qt Qb q_1] [E s0] (fun (_ : Unit) => tup []) (fun (_ : Unit) => [E r]) := by
 unfold V3 at h
 refine Wq Tryz.func187 rfl 8 rfl rfl fun m0 w0 b0 hl hb => ?_
 show Run _ _ _ [(0, val (yv L)), (1, Qt QC q_0), (2, Qt Qb q_1)] _
 refine rd (n := 3) (.p (plt (ht rfl)) <| .p (JA (ht rfl) (by decide) (by kernel_rfl)) <| .m rfl <| .nil) (Je (Γ' := [(4, QC.slot q_0), (5, (sl u8).slot q_1.toList), (6, val (yv L))]) (H' := [E s0]) .k3 .h1 ?_)
 obtain ⟨y1, e2, h⟩ := bs h
 refine Qhb tl3 (by kernel_rfl) hl hb (WO hY e2) rfl ?_
 refine Qd ?_
 obtain rfl := oi h
 exact YV fun a w hst => Ki hst rfl (.nil) rfl () (fun _ _ h => h) .h1
theorem Qbi {G : GP} {p_f : Jy} {p_h : Qa} {r : (List (BitVec 8))} (h : VS p_f p_h = some r) : Ctr Tryz.prog G 182 [QC.slot p_f, Qb.slot p_h] [] (fun (u0 : Value) => ov u0) (fun (u0 : Value) => [own 5 u8 u0 r]) := by
 unfold VS at h
 refine BH Tryz.func182 rfl 25 rfl rfl fun m0 w0 b0 => ?_
 show Run _ _ _ [(0, QC.slot p_f), (1, Qb.slot p_h)] _
 refine rs <| rt <| jq (Q0 (ht rfl)) ?_
 refine jq (Q0 (ht rfl)) ?_
 refine QN (T := 5) u8 rfl fun v1 => ?_
 refine Qd <| rs <| rt <| al (x := 0) (R := i64) Qx fun b1 => ?_
 refine jk (r' := (0 : Int)) (ht rfl) Qe .here .a ?_
 refine Qd <| rs <| rs <| rt <| jq (Wy tl2) ?_
 refine Qd <| QJ <| Q9 (Γ' := [(2, Qt QC p_f), (5, val (.pointer (some ⟨b1, 0, none⟩))), (7, fnS 187 [Qt QC p_f, Qt Qb p_h])]) (H' := [box b1 3 i64 (0 : Int)]) .k3 .h1 ?_
 obtain ⟨y2, e2, h⟩ := bs h
 refine WE (σ := Int) (α := Int) (κ := Unit) (Es := fun (i : Unit) (s : Int) => [box b1 3 i64 s]) (y := (fun (s : Int) (d : Int) => Z3 p_f s d)) (sd := fun d => i64.slot d) (Γ1 := fun d => [(2, Qt QC p_f), (5, val (.pointer (some ⟨b1, 0, none⟩))), (6, i64.slot d)]) () (ht rfl) (by kernel_rfl) rfl .h1 (fun l rc G' hG hY => (Qae (E := fun (s : Int) => QaK fun (i : Unit) => [box b1 3 i64 s]) hY e2)) ?_ ?_ ?_
 ·clear h e2
  rintro lz mz wz bz _ y1 d s2 h
  show Run _ _ _ ((8, i64.slot d) :: [(2, Qt QC p_f), (5, val (.pointer (some ⟨b1, 0, none⟩))), (7, fnS 187 [Qt QC p_f, Qt Qb p_h])]) [box b1 3 i64 y1]
  refine rt <| ja ?_
  exact Qd <| YV fun a w hst => ⟨rfl, (hst.sub .k3).keep .h1⟩
 ·clear h e2
  rintro lz mz wz bz _ y1 d s2 h
  change Z3 p_f y1 d = some _ at h
  show Run _ _ _ [(2, Qt QC p_f), (5, val (.pointer (some ⟨b1, 0, none⟩))), (6, i64.slot d)] [box b1 3 i64 y1]
  unfold Z3 at h
  refine QJ ?_
  obtain ⟨r1, e1, h⟩ := bs h
  refine rd (n := 5) (.p (plb (ht rfl) .here .a) <| .p (plt (ht rfl)) <| .p (pc tl1 (VG e1)) <| .m rfl <| .p (JS (ht rfl) (ht rfl)) <| .nil) (Je (Γ' := [(5, val (.pointer (some ⟨b1, 0, none⟩))), (9, i64.slot y1), (13, i64.slot (w64 (r1 - d)))]) (H' := [box b1 3 i64 y1]) .k3 .h1 ?_)
  refine jq (QW (ht rfl) (ht rfl)) ?_
  refine jk (r' := w64 (y1 + (w64 (r1 - d)))) (ht rfl) (ht rfl) .here .a ?_
  refine Qd <| Qs ?_
  obtain rfl := oi h
  exact YV fun a w hst => ⟨rfl, (), (hst.sub .nil).keep .h1⟩
 ·rintro _
  show Run _ _ _ [(2, Qt QC p_f), (5, val (.pointer (some ⟨b1, 0, none⟩))), (7, fnS 187 [Qt QC p_f, Qt Qb p_h])] [box b1 3 i64 y2]
  refine Q9 (Γ' := [(2, Qt QC p_f), (5, val (.pointer (some ⟨b1, 0, none⟩)))]) (H' := [box b1 3 i64 y2]) .k2 .h1 ?_
  refine Qs <| rs <| rt <| jq (plb (ht rfl) .here .a) ?_
  refine jq (pft (ht rfl) (.t .s .s)) ?_
  refine jl ?_
  obtain ⟨e3, h⟩ := QS h
  refine jq (KR (ht rfl) (ht rfl) Qh e3) ?_
  refine jk (r' := Xq y2 p_f.2.2) (ht rfl) (ht rfl) .here .a ?_
  refine Qd <| rs <| rt <| jq (plb (ht rfl) .here .a) ?_
  refine jq (Ba (ht rfl) (QE (x := 8#64) rfl) JY (Int.natCast_nonneg _)) ?_
  refine jq (Jo (k := .u8) (b := 8) rfl rfl (by kernel_rfl) (ht rfl) Qh) ?_
  refine jq (plb (ht rfl) .here .a) ?_
  refine jq (Jo (k := .u8) (b := 8) rfl rfl (by kernel_rfl) (ht rfl) Qh) ?_
  refine V4 (T := 5) (R := u8) (.cons (ht rfl) (.cons (ht rfl) .nil)) rfl (by kernel_rfl) (by kernel_rfl) rfl fun v2 => ?_
  refine ja ?_
  refine Qd ?_
  obtain rfl := oi h
  exact Qo fun a w hst => B7 hst rfl (.tmp rfl) v2 (fun _ _ h => h) .h1
theorem Bv {G : GP} {Sy : Type} {yl : Sy → Int → Option Sy} {q_0 : Jy} {q_1 : List (BitVec 8)} {s0 : Sy} {L : Nat} {rc : Loop} {E : Sy → Ent} {r : Sy} (hY : ∀ s d s', yl s d = some s' → Qag Tryz.prog G L rc (i64.slot d) (E s) (E s')) (h : XY yl q_0 q_1 s0 = some r) : Qgs Tryz.prog G L rc 183 [val (yv L), Qt QC q_0, Qt (sl u8) q_1] [E s0] (fun (_ : Unit) => tup []) (fun (_ : Unit) => [E r]) := by
 unfold XY at h
 refine Wq Tryz.func183 rfl 8 rfl rfl fun m0 w0 b0 hl hb => ?_
 show Run _ _ _ [(0, val (yv L)), (1, Qt QC q_0), (2, Qt (sl u8) q_1)] _
 refine rt <| jl ?_
 refine jl ?_
 refine jm ?_
 obtain ⟨y1, e2, h⟩ := bs h
 refine Qhb tl3 (by kernel_rfl) hl hb (WO hY e2) rfl ?_
 refine Qd ?_
 obtain rfl := oi h
 exact YV fun a w hst => Ki hst rfl (.nil) rfl () (fun _ _ h => h) .h1
theorem UK {G : GP} {p_f : Jy} {p_h : Qa} {r : (List Int)} (h : Y2 p_f p_h = some r) : Ctr Tryz.prog G 163 [QC.slot p_f, Qb.slot p_h] [] (fun (u0 : Value) => ov u0) (fun (u0 : Value) => [own 3 i64 u0 r]) := by
 unfold Y2 at h
 refine BH Tryz.func163 rfl 28 rfl rfl fun m0 w0 b0 => ?_
 show Run _ _ _ [(0, QC.slot p_f), (1, Qb.slot p_h)] _
 refine rs <| rt <| jq (Q0 (ht rfl)) ?_
 refine Bq (ht rfl) rfl fun b1 => ?_
 refine QN (T := 3) i64 rfl fun v1 => ?_
 refine Qd <| rs <| rt <| jq (pft (ht rfl) (.t .s .f)) ?_
 refine jl ?_
 obtain ⟨e1, h⟩ := QS h
 refine Uy (T := 3) (R := i64) (z := 0) Qe (ht rfl) (by decide) e1.1 e1.2 (by kernel_rfl) Qx (by kernel_rfl) rfl fun v2 => ?_
 refine al (x := ([] : List Int)) (R := (sl i64)) Jp fun b2 => ?_
 refine W7 (ht rfl) (ht rfl) .here (by kernel_rfl) (by kernel_rfl) ?_
 refine Qd <| rs ?_
 obtain ⟨r1, e2, h⟩ := bs h
 obtain ⟨e3, h⟩ := QS h
 refine Xn (H' := [box b2 132 (exv v2) (), own 3 i64 v2 ([] : List Int), own 3 i64 v1 ([] : List Int), box b1 23 Qb p_h]) .h4 ?_
 refine rdL (n := 6) (H := [box b2 132 (exv v2) (), own 3 i64 v2 ([] : List Int), own 3 i64 v1 ([] : List Int), box b1 23 Qb p_h]) (Ls := [⟨[], [(4, ⟨Value, fun (v3 : Value) => [own 5 u8 v3 (p_h.toList ++ r1)], fun (v3 : Value) => [(15, ov v3)]⟩)]⟩, ⟨[], [(5, ⟨Nat, fun (b3 : Nat) => [box b3 31 (sl u8) ([] : List (BitVec 8))], fun (b3 : Nat) => [(6, val (.pointer (some ⟨b3, 0, none⟩)))]⟩)]⟩]) (.p (Kd (lo := 0) (sz := 1) (n := 32) (ht rfl) .no .no 32 32 rfl (by kernel_rfl)) <| .p (plt (ht rfl)) <| .p (plb (ht rfl) (.next (.next (.next .here))) .a) <| .p (pc tl2 (Ctr.froze (Qbi e2))) <| .step 0 rfl .here (.inl rfl) (fun i => ⟨_, _, fun j => j, (QhB (T := 5) (E := 5) (ht rfl) (QiV (ht rfl) (.next (.next (.next .here)))) (JE (ht rfl)) (by kernel_rfl) (by kernel_rfl) e3 rfl), fun _ => rfl, VJ, Bh⟩) <| .step 1 rfl .here (.inl rfl) (fun i => ⟨_, _, fun j => j, (qj (x := ([] : List (BitVec 8))) (R := (sl u8)) Jp (by kernel_rfl) rfl), fun _ => rfl, VJ, Bh⟩) <| .nil) ?_
 rintro v3 b3
 refine Je (Γ' := [(2, Qt QC p_f), (5, val (.pointer (some ⟨b2, 0, none⟩))), (6, val (.pointer (some ⟨b3, 0, none⟩))), (15, ov v3)]) (H' := [own 5 u8 v3 (p_h.toList ++ r1), box b3 31 (sl u8) ([] : List (BitVec 8)), box b2 132 (exv v2) (), own 3 i64 v2 ([] : List Int)]) .k4 .h4 ?_
 refine Qcg [15] .here (KU (.of_lk rfl) <| Qb1) ?_
 refine jk (r' := (p_h.toList ++ r1)) (ht rfl) (ht rfl) .here .a ?_
 refine Jd (t := 6) .here (.of_lk rfl) ?_
 refine Qd <| rs <| rs <| rt <| jq (Wy tl2) ?_
 refine Qd <| QJ <| Q9 (Γ' := [(2, Qt QC p_f), (5, val (.pointer (some ⟨b2, 0, none⟩))), (16, fnS 183 [Qt QC p_f, Qt (sl u8) (p_h.toList ++ r1)])]) (H' := [box b2 132 (exv v2) (), own 3 i64 v2 ([] : List Int)]) .k3 .h2 ?_
 obtain ⟨y2, e6, h⟩ := bs h
 refine WE (σ := (List Int)) (α := Int) (κ := Value) (Es := fun (i : Value) (s : (List Int)) => [box b2 132 (exv i) (), own 3 i64 i s]) (y := (fun (s : (List Int)) (d : Int) => J9 p_f s d)) (sd := fun d => i64.slot d) (Γ1 := fun d => [(2, Qt QC p_f), (5, val (.pointer (some ⟨b2, 0, none⟩))), (7, i64.slot d)]) v2 (ht rfl) (by kernel_rfl) rfl .h2 (fun l rc G' hG hY => (Bv (E := fun (s : (List Int)) => QaK fun (i : Value) => [box b2 132 (exv i) (), own 3 i64 i s]) hY e6)) ?_ ?_ ?_
 ·clear h e6
  rintro lz mz wz bz v4 y1 d s2 h
  show Run _ _ _ ((17, i64.slot d) :: [(2, Qt QC p_f), (5, val (.pointer (some ⟨b2, 0, none⟩))), (16, fnS 183 [Qt QC p_f, Qt (sl u8) (p_h.toList ++ r1)])]) [box b2 132 (exv v4) (), own 3 i64 v4 y1]
  refine rt <| ja ?_
  exact Qd <| YV fun a w hst => ⟨rfl, (hst.sub .k3).keep .h2⟩
 ·clear h e6
  rintro lz mz wz bz v4 y1 d s2 h
  change J9 p_f y1 d = some _ at h
  show Run _ _ _ [(2, Qt QC p_f), (5, val (.pointer (some ⟨b2, 0, none⟩))), (7, i64.slot d)] [box b2 132 (exv v4) (), own 3 i64 v4 y1]
  unfold J9 at h
  refine QJ <| rs <| rt <| jq (plb (ht rfl) .here .a) ?_
  refine jq (YP (sz := 1) (ht rfl) (.next .here) (by kernel_rfl)) ?_
  refine jq (pft (ht rfl) (.t .s .f)) ?_
  refine jl ?_
  refine jq (Q7 (ht rfl) (ht rfl)) ?_
  refine Qd <| Qn (ht rfl) (fun e4 => ?_) (fun e4 => ?_)
  ·replace h := bt e4 h
   refine rt <| jq (plb (ht rfl) .here .a) ?_
   refine jm ?_
   refine jq (QT (T := 3) (R := i64) (.cons (ht rfl) .nil) rfl (by kernel_rfl) (by kernel_rfl)) ?_
   obtain ⟨e5, h⟩ := QS h
   refine JQ (T := 3) (E := 3) (ht rfl) (.next .here) (JE (ht rfl)) (by kernel_rfl) (by kernel_rfl) e5 rfl fun v5 => ?_
   refine W7 (ht rfl) (ht rfl) (.next .here) (by kernel_rfl) (by kernel_rfl) ?_
   refine Qd <| Qs ?_
   obtain rfl := oi h
   exact YV fun a w hst => ⟨rfl, v5, (hst.sub .nil).keep .h2⟩
  ·replace h := bf e4 h
   refine Qm <| Qs ?_
   obtain rfl := oi h
   exact YV fun a w hst => ⟨rfl, v4, (hst.sub .nil).keep .h2⟩
 ·rintro v6
  show Run _ _ _ [(2, Qt QC p_f), (5, val (.pointer (some ⟨b2, 0, none⟩))), (16, fnS 183 [Qt QC p_f, Qt (sl u8) (p_h.toList ++ r1)])] [box b2 132 (exv v6) (), own 3 i64 v6 y2]
  refine Q9 (Γ' := [(5, val (.pointer (some ⟨b2, 0, none⟩)))]) (H' := [box b2 132 (exv v6) (), own 3 i64 v6 y2]) .k1 .h2 ?_
  refine Qs <| rs <| rt <| jq (plb (ht rfl) .here .a) ?_
  refine ja ?_
  refine Qd ?_
  obtain rfl := oi h
  exact Qo fun a w hst => B7 hst rfl (.tmp rfl) v6 (fun _ _ h => h) (.cons (.next .here) <| .nil)
theorem QbQ {G : GP} (hg0 : HG0 G) (hg1 : HG1 G) (hg2 : HG2 G) {p_id : QO} {p_q : BitVec 32} {p_message : List (BitVec 8)} {p_signature : List (BitVec 8)} {r : Qa × Bool} (h : Kk p_id p_q p_message p_signature = some r) : Ctr Tryz.prog G 144 [QG.slot p_id, u32.slot p_q, (sl u8).slot p_message, (sl u8).slot p_signature] [] (fun (_ : Unit) => tup [Qb.slot r.1, bl.slot r.2]) (fun (_ : Unit) => []) := by
 unfold Kk at h
 refine Qp Tryz.func144 rfl 77 rfl rfl fun m0 w0 b0 => ?_
 show Run _ _ _ [(0, QG.slot p_id), (1, u32.slot p_q), (2, (sl u8).slot p_message), (3, (sl u8).slot p_signature)] _
 refine rs <| rt <| jq (Q0 (ht rfl)) ?_
 refine al (x := (Vector.replicate 32 (0#8))) (R := Qb) (QA 32 QH) fun b1 => ?_
 refine jq (pa QU) ?_
 refine Qd <| rs <| rt <| jm ?_
 obtain ⟨r1, e1, h⟩ := bs h
 refine jc tl1 (Ui e1) .nil fun b2 => ?_
 refine ja ?_
 refine Qd <| rs <| rt <| jm ?_
 obtain ⟨r2, e2, h⟩ := bs h
 refine jc tl1 (Zk e2) .h1 fun _ => ?_
 refine ja ?_
 refine Qd <| rs <| rt <| jm ?_
 refine jq (YQ (by decide) (by kernel_rfl) (ht rfl)) ?_
 obtain ⟨r3, e3, h⟩ := bs h
 refine jq (pc tl1 (Wk hg0 e3)) ?_
 refine jm ?_
 refine jx ?_
 refine jx ?_
 refine al (x := (0, 0, 0)) (R := QC) (Qk Qx (Qk Qx Qx)) fun b3 => ?_
 refine jk (r' := r3.1) (ht rfl) (ht rfl) .here .a ?_
 refine Jd (t := 12) .here (.of_lk rfl) ?_
 refine ja ?_
 refine Qd <| rs <| rs <| rt <| jm ?_
 refine jq (ZI (ht rfl)) ?_
 refine jm ?_
 obtain ⟨y1, e5, h⟩ := bs h
 refine Jz (ι := Unit) (Γ' := fun _ => [(1, u32.slot p_q), (2, (sl u8).slot p_message), (4, Qt QG p_id), (8, val (.pointer (some ⟨b1, 0, none⟩))), (10, val (.pointer (some ⟨b2, 0, none⟩))), (12, Qt QC r3.1), (37, bl.slot y1)]) (H' := fun _ => [box b2 208 (prod (sl u8) bl) (r2.1.1, r2.1.2), box b1 23 Qb (Vector.replicate 32 (0#8))]) 7 ?_ fun J => ?_
 ·intro _
  clear e5
  show Jc _ _ _ [(1, u32.slot p_q), (2, (sl u8).slot p_message), (4, Qt QG p_id), (8, val (.pointer (some ⟨b1, 0, none⟩))), (10, val (.pointer (some ⟨b2, 0, none⟩))), (12, Qt QC r3.1), (37, bl.slot y1)] [box b2 208 (prod (sl u8) bl) (r2.1.1, r2.1.2), box b1 23 Qb (Vector.replicate 32 (0#8))] _
  refine Qd <| Qn (ht rfl) (fun e7 => ?_) (fun e7 => ?_)
  ·replace h := bt e7 h
   refine rs <| rt <| jq (JZ (R := Qb) (QA 32 QH) (by kernel_rfl) (by kernel_rfl) rfl .nil) ?_
   refine jk (r' := (Vector.replicate 32 (0#8))) (ht rfl) (ht rfl) (.next .here) .a ?_
   refine jq (pa QU) ?_
   refine Qd ?_
   obtain rfl := oi h
   exact Qo fun a w hst => JV hst rfl (.cons (.cell rfl .here (by kernel_rfl)) <| .cons (.tmp rfl) <| .nil) rfl () (fun _ _ h => h) (.nil)
  ·replace h := bf e7 h
   refine Qm <| rs <| rt <| jm ?_
   obtain ⟨r5, e8, h⟩ := bs h
   refine jc (hc (ht rfl) <| hc Qe <| Q3) (Zf e8) .h1 fun _ => ?_
   refine ja ?_
   refine Qd <| rs <| rt <| jq (pft (ht rfl) (.t .s .f)) ?_
   refine jl ?_
   obtain ⟨e9, h⟩ := QS h
   obtain ⟨x1, e10, h⟩ := bs h
   refine QaG (T := 23) (R := Qb) (z := (Vector.replicate 32 (0#8))) (ht rfl) (ht rfl) e9.1 (Int.le_refl _) e9.2 (by kernel_rfl) (QA 32 QH) (by kernel_rfl) (oi e10) rfl fun v1 => ?_
   refine ja ?_
   refine Qd <| rs <| rs ?_
   obtain ⟨r6, e11, h⟩ := bs h
   obtain ⟨r7, e12, h⟩ := bs h
   refine rd (n := 10) (.p (plt (ht rfl)) <| .p (plt (ht rfl)) <| .m rfl <| .m rfl <| .m rfl <| .p (QT (T := 31) (R := (sl u8)) (.cons (ht rfl) (.cons (ht rfl) .nil)) rfl (by kernel_rfl) (by kernel_rfl)) <| .p (pc (hc (ht rfl) <| hc (ht rfl) <| hc Qe <| hc (ht rfl) <| Q3) (Kh hg1 hg2 e11)) <| .p (pc tl2 (Ctr.froze (UK e12))) <| .p (QX (sz := 1) (ht rfl) (by kernel_rfl)) <| .p (pm Qe) <| .nil) (Je (Γ' := [(1, u32.slot p_q), (4, Qt QG p_id), (8, val (.pointer (some ⟨b1, 0, none⟩))), (10, val (.pointer (some ⟨b2, 0, none⟩))), (12, Qt QC r3.1), (15, ov v1), (51, (sl i64).slot r7), (52, i64.slot (r7.length : Int)), (53, i64.slot (0 : Int))]) (H' := [own 23 Qb v1 x1, box b2 208 (prod (sl u8) bl) (r5.1.1, r5.1.2), box b1 23 Qb (Vector.replicate 32 (0#8))]) .k9 .h3 ?_)
   refine Qd ?_
   obtain ⟨⟨y6, y7, y8, y9⟩, e20, h⟩ := bs h
   refine Q2 (Γi := fun (i : Unit) (s : Int × (List Qa) × (List (BitVec 8)) × Bool) => [(1, u32.slot p_q), (4, Qt QG p_id), (8, val (.pointer (some ⟨b1, 0, none⟩))), (10, val (.pointer (some ⟨b2, 0, none⟩))), (12, Qt QC r3.1), (15, ov v1), (51, (sl i64).slot r7), (52, i64.slot (r7.length : Int)), (53, i64.slot s.1)]) (Hi := fun (i : Unit) (s : Int × (List Qa) × (List (BitVec 8)) × Bool) => [own 23 Qb v1 s.2.1, box b2 208 (prod (sl u8) bl) (s.2.2.1, s.2.2.2), box b1 23 Qb (Vector.replicate 32 (0#8))]) e20 () (fun a w hst => (hst.sub .k9).keep .h3) ?_ ?_
   ·clear h e20
    rintro _ ⟨y2, y3, y4, y5⟩ lr h
    change YM r7 r3 p_id p_q y2 y3 y4 y5 = some _ at h
    show Run _ _ _ [(1, u32.slot p_q), (4, Qt QG p_id), (8, val (.pointer (some ⟨b1, 0, none⟩))), (10, val (.pointer (some ⟨b2, 0, none⟩))), (12, Qt QC r3.1), (15, ov v1), (51, (sl i64).slot r7), (52, i64.slot (r7.length : Int)), (53, i64.slot y2)] [own 23 Qb v1 y3, box b2 208 (prod (sl u8) bl) (y4, y5), box b1 23 Qb (Vector.replicate 32 (0#8))]
    unfold YM at h
    refine rs <| rt <| jq (Q7 (ht rfl) (ht rfl)) ?_
    refine Qd <| rs <| Qn (ht rfl) (fun e13 => ?_) (fun e13 => ?_)
    ·replace h := bt e13 h
     refine Qm <| rs <| QJ <| rs <| rt <| jm ?_
     obtain ⟨x2, e14, h⟩ := bs h
     refine jq (pix (ht rfl) (ht rfl) Qh e14) ?_
     refine jl ?_
     refine ja ?_
     refine ja ?_
     refine Qd ?_
     obtain ⟨r8, e15, h⟩ := bs h
     obtain ⟨x3, e16, h⟩ := bs h
     obtain ⟨r9, e17, h⟩ := bs h
     obtain ⟨r10, e18, h⟩ := bs h
     refine Xn (H' := [box b2 208 (prod (sl u8) bl) (y4, y5), own 23 Qb v1 y3, box b1 23 Qb (Vector.replicate 32 (0#8))]) (.cons (.next .here) <| .cons .here <| .cons .here <| .nil) ?_
     refine rdL (n := 13) (H := [own 23 Qb v1 y3, box b1 23 Qb (Vector.replicate 32 (0#8))]) (Ls := [⟨[box b2 208 (prod (sl u8) bl) (y4, y5)], [(6, ⟨Unit, fun (_ : Unit) => [box b2 208 (prod (sl u8) bl) (r8.1.1, r8.1.2)], fun (_ : Unit) => [(64, (sl u8).slot r8.2)]⟩)]⟩]) (.m rfl <| .m rfl <| .p (plt (ht rfl)) <| .m rfl <| .m rfl <| .m rfl <| .step 0 rfl .here (.inl rfl) (fun i => ⟨_, _, fun _ => (), (wc (hc (ht rfl) <| hc Qe <| Q3) (Zf e15) .h1), fun _ => rfl, Qcp, Bh⟩) <| .p (Qau (e := 5) (ht rfl) e16 rfl (by kernel_rfl)) <| .p (plt (ht rfl)) <| .m rfl <| .p (plt (ht rfl)) <| .p (pc tl1 (VG e17)) <| .p (pc tl6 (WG hg1 hg2 e18)) <| .nil) ?_
     rintro _
     refine Je (Γ' := [(1, u32.slot p_q), (4, Qt QG p_id), (8, val (.pointer (some ⟨b1, 0, none⟩))), (10, val (.pointer (some ⟨b2, 0, none⟩))), (12, Qt QC r3.1), (15, ov v1), (51, (sl i64).slot r7), (52, i64.slot (r7.length : Int)), (53, i64.slot y2), (58, ov v1), (59, i64.slot y2), (70, Qb.slot r10)]) (H' := [box b2 208 (prod (sl u8) bl) (r8.1.1, r8.1.2), own 23 Qb v1 y3, box b1 23 Qb (Vector.replicate 32 (0#8))]) .k12 .h3 ?_
     obtain ⟨e19, h⟩ := QS h
     refine jq (J8 (ht rfl) (.next .here) (ht rfl) Qh e19.1 (Vl e19) (by kernel_rfl)) ?_
     refine UQ Qb (y2.toNat) (ht rfl) (ht rfl) (.next .here) (Vl e19) (by kernel_rfl) ?_
     refine Qd <| Qs <| rt <| jq (QW (ht rfl) Qe) ?_
     refine jm ?_
     refine Qd ?_
     obtain rfl := oi h
     exact QZ () .k9 .h3
    ·replace h := bf e13 h
     obtain rfl := oi h
     exact Jf () .k9 .h3
   ·rintro _
    show Run _ _ _ [(1, u32.slot p_q), (4, Qt QG p_id), (8, val (.pointer (some ⟨b1, 0, none⟩))), (10, val (.pointer (some ⟨b2, 0, none⟩))), (12, Qt QC r3.1), (15, ov v1), (51, (sl i64).slot r7), (52, i64.slot (r7.length : Int)), (53, i64.slot y6)] [own 23 Qb v1 y7, box b2 208 (prod (sl u8) bl) (y8, y9), box b1 23 Qb (Vector.replicate 32 (0#8))]
    refine Q9 (Γ' := [(1, u32.slot p_q), (4, Qt QG p_id), (8, val (.pointer (some ⟨b1, 0, none⟩))), (15, ov v1)]) (H' := [own 23 Qb v1 y7, box b1 23 Qb (Vector.replicate 32 (0#8))]) .k4 (.cons .here <| .cons (.next .here) <| .nil) ?_
    refine rs <| rt <| jl ?_
    refine jm ?_
    refine jm ?_
    obtain ⟨r11, e21, h⟩ := bs h
    refine jq (Yo (Q1 (Yr (ht rfl)) <| Q1 (Yr (ht rfl)) <| Q1 (VO (ht rfl) .here) <| Zj) (by kernel_rfl) (B1 hg1 hg2 e21) (Rep.flat_slot (X9 _ (V9 _ _)) _)) ?_
    refine jk (r' := r11) (ht rfl) (ht rfl) (.next .here) .a ?_
    refine jq (pa QU) ?_
    refine Qd ?_
    obtain rfl := oi h
    exact Qo fun a w hst => JV hst rfl (.cons (.cell rfl .here (by kernel_rfl)) <| .cons (.tmp rfl) <| .nil) rfl () (fun _ _ h => h) (.nil)
 ·rcases Jl (!r3.2) with e4 | e4
  ·replace e5 := bt e4 e5
   refine jN e4 ?_
   refine jN e4 ?_
   refine jN e4 ?_
   refine jN e4 ?_
   refine jN e4 ?_
   refine jN e4 ?_
   refine jq (pk1 e4 QU (oi e5)) ?_
   exact Je .k7 .h2 (J ())
  ·replace e5 := bf e4 e5
   refine jz (pm (ht rfl)) e4 ?_
   refine jz (QX (sz := 1) (ht rfl) (by kernel_rfl)) e4 ?_
   refine jz (pm (ht rfl)) e4 ?_
   refine jz (YQ (by decide) (by kernel_rfl) (ht rfl)) e4 ?_
   obtain ⟨r4, e6, e5⟩ := bind_some e5
   refine jz (pc tl1 (W9 hg0 e6)) e4 ?_
   refine jz (YG (ht rfl) (ht rfl)) e4 ?_
   refine jq (pk2 e4 (ht rfl) (oi e5)) ?_
   exact Je .k7 .h2 (J ())
theorem QeH {G : GP} (hg1 : HG1 G) (hg2 : HG2 G) {p_id : QO} {p_r : Int} {p_h : Qa} {p_path : List Qa} {r : Qa} (h : WY p_id p_r p_h p_path = some r) : Ctr Tryz.prog G 145 [QG.slot p_id, i64.slot p_r, Qb.slot p_h, (sl Qb).slot p_path] [] (fun (_ : Unit) => Qb.slot r) (fun (_ : Unit) => []) := by
 unfold WY at h
 refine Qp Tryz.func145 rfl 35 rfl rfl fun m0 w0 b0 => ?_
 show Run _ _ _ [(0, QG.slot p_id), (1, i64.slot p_r), (2, Qb.slot p_h), (3, (sl Qb).slot p_path)] _
 refine rs <| rt <| jq (Q0 (ht rfl)) ?_
 refine Bq (ht rfl) rfl fun b1 => ?_
 refine al (x := (Vector.replicate 32 (0#8))) (R := Qb) (QA 32 QH) fun b2 => ?_
 refine Qd <| rs <| rs <| rt <| jm ?_
 refine jq (QX (sz := 32) (ht rfl) (by kernel_rfl)) ?_
 refine jq (pm Qe) ?_
 refine Qd ?_
 obtain ⟨⟨y6, y7, y8⟩, e6, h⟩ := bs h
 refine Q2 (Γi := fun (i : Unit) (s : Int × Int × Qa) => [(1, i64.slot s.1), (4, Qt QG p_id), (6, val (.pointer (some ⟨b1, 0, none⟩))), (8, val (.pointer (some ⟨b2, 0, none⟩))), (13, (sl Qb).slot p_path), (14, i64.slot (p_path.length : Int)), (15, i64.slot s.2.1)]) (Hi := fun (i : Unit) (s : Int × Int × Qa) => [box b2 23 Qb (Vector.replicate 32 (0#8)), box b1 23 Qb s.2.2]) e6 () (fun a w hst => (hst.sub .k7).keep .h2) ?_ ?_
 ·clear h e6
  rintro _ ⟨y1, y2, y3⟩ lr h
  change Vm p_path p_id y1 y2 y3 = some _ at h
  show Run _ _ _ [(1, i64.slot y1), (4, Qt QG p_id), (6, val (.pointer (some ⟨b1, 0, none⟩))), (8, val (.pointer (some ⟨b2, 0, none⟩))), (13, (sl Qb).slot p_path), (14, i64.slot (p_path.length : Int)), (15, i64.slot y2)] [box b2 23 Qb (Vector.replicate 32 (0#8)), box b1 23 Qb y3]
  unfold Vm at h
  refine rs <| rt <| jq (Q7 (ht rfl) (ht rfl)) ?_
  refine Qd <| rs <| Qn (ht rfl) (fun e1 => ?_) (fun e1 => ?_)
  ·replace h := bt e1 h
   refine Qm <| rs <| QJ <| rs <| rt ?_
   obtain ⟨x1, e2, h⟩ := bs h
   refine jq (pix (ht rfl) (ht rfl) Qh e2) ?_
   refine jl ?_
   refine al (x := (Vector.replicate 32 (0#8))) (R := Qb) (QA 32 QH) fun b3 => ?_
   refine jk (r' := x1) (ht rfl) (ht rfl) .here .a ?_
   refine Jd (t := 10) .here (.of_lk rfl) ?_
   refine Qd <| rs <| Xn (H' := [box b2 23 Qb (Vector.replicate 32 (0#8)), box b1 23 Qb y3]) .h2 ?_
   refine rdL (n := 5) (H := [box b2 23 Qb (Vector.replicate 32 (0#8)), box b1 23 Qb y3]) (Ls := [⟨[], [(2, ⟨Nat, fun (b4 : Nat) => [box b4 23 Qb (Vector.replicate 32 (0#8))], fun (b4 : Nat) => [(11, val (.pointer (some ⟨b4, 0, none⟩)))]⟩), (4, ⟨Nat, fun (b4 : Nat) => [box b4 23 Qb y3], fun (b4 : Nat) => [(11, val (.pointer (some ⟨b4, 0, none⟩)))]⟩)]⟩, ⟨[], [(3, ⟨Nat, fun (b5 : Nat) => [box b5 23 Qb (Vector.replicate 32 (0#8))], fun (b5 : Nat) => [(12, val (.pointer (some ⟨b5, 0, none⟩)))]⟩)]⟩]) (.p (plb (ht rfl) (.next .here) .a) <| .p (plt (ht rfl)) <| .step 0 rfl .here (.inl rfl) (fun i => ⟨_, _, fun j => j, (qj (x := (Vector.replicate 32 (0#8))) (R := Qb) (QA 32 QH) (by kernel_rfl) rfl), fun _ => rfl, VJ, Bh⟩) <| .step 1 rfl .here (.inl rfl) (fun i => ⟨_, _, fun j => j, (qj (x := (Vector.replicate 32 (0#8))) (R := Qb) (QA 32 QH) (by kernel_rfl) rfl), fun _ => rfl, VJ, Bh⟩) <| .step 0 rfl (.next .here) (.inl rfl) (fun i => ⟨_, _, fun _ => i, (qd (r' := y3) (ht rfl) (ht rfl) .here .a (by kernel_rfl) rfl), fun _ => rfl, (Qba (s := any)), QhG⟩) <| .nil) ?_
   rintro b4 b5
   refine Je (Γ' := [(1, i64.slot y1), (4, Qt QG p_id), (6, val (.pointer (some ⟨b1, 0, none⟩))), (8, val (.pointer (some ⟨b2, 0, none⟩))), (10, Qt Qb x1), (11, val (.pointer (some ⟨b4, 0, none⟩))), (12, val (.pointer (some ⟨b5, 0, none⟩))), (13, (sl Qb).slot p_path), (14, i64.slot (p_path.length : Int)), (15, i64.slot y2), (20, Qb.slot x1)]) (H' := [box b4 23 Qb y3, box b5 23 Qb (Vector.replicate 32 (0#8)), box b2 23 Qb (Vector.replicate 32 (0#8)), box b1 23 Qb y3]) .k11 .h4 ?_
   refine jk (r' := x1) (ht rfl) (ht rfl) (.next .here) .a ?_
   refine Qd <| rs <| rs <| rt <| jm ?_
   refine jq (qn (ht rfl) Qe (by decide)) ?_
   refine jq (ZJ (ht rfl) Qe) ?_
   refine Qd ?_
   obtain ⟨⟨y4, y5⟩, e4, h⟩ := bs h
   refine KC (ι := Unit) (Γ' := fun (_ : Unit) => [(1, i64.slot y1), (4, Qt QG p_id), (6, val (.pointer (some ⟨b1, 0, none⟩))), (8, val (.pointer (some ⟨b2, 0, none⟩))), (11, val (.pointer (some ⟨b4, 0, none⟩))), (12, val (.pointer (some ⟨b5, 0, none⟩))), (13, (sl Qb).slot p_path), (14, i64.slot (p_path.length : Int)), (15, i64.slot y2)]) (H' := fun (_ : Unit) => [box b5 23 Qb y4, box b4 23 Qb y5, box b2 23 Qb (Vector.replicate 32 (0#8)), box b1 23 Qb y3]) ?_ fun J => ?_
   ·intro _
    clear e4
    show Run _ _ _ [(1, i64.slot y1), (4, Qt QG p_id), (6, val (.pointer (some ⟨b1, 0, none⟩))), (8, val (.pointer (some ⟨b2, 0, none⟩))), (11, val (.pointer (some ⟨b4, 0, none⟩))), (12, val (.pointer (some ⟨b5, 0, none⟩))), (13, (sl Qb).slot p_path), (14, i64.slot (p_path.length : Int)), (15, i64.slot y2)] [box b5 23 Qb y4, box b4 23 Qb y5, box b2 23 Qb (Vector.replicate 32 (0#8)), box b1 23 Qb y3]
    refine rs <| rt <| jm ?_
    refine jq (B3 (ht rfl) Qe (by decide)) ?_
    refine ja ?_
    refine Qd <| rt <| jl ?_
    refine jm ?_
    refine jq (plb (ht rfl) (.next .here) .a) ?_
    refine jq (plb (ht rfl) .here .a) ?_
    obtain ⟨r1, e5, h⟩ := bs h
    refine jq (pc tl4 (QbJ hg1 hg2 e5)) ?_
    refine jk (r' := r1) (ht rfl) (ht rfl) (.next (.next (.next .here))) .a ?_
    refine Qd <| Qs <| rt <| jq (QW (ht rfl) Qe) ?_
    refine jm ?_
    refine Qd ?_
    obtain rfl := oi h
    exact QZ () .k7 (.cons (.next (.next (.next .here))) <| .cons .here <| .nil)
   ·refine Qn (ht rfl) (fun e3 => ?_) (fun e3 => ?_)
    ·replace h := bt e3 e4
     refine Xn (H' := [box b4 23 Qb y3, box b5 23 Qb x1, box b2 23 Qb (Vector.replicate 32 (0#8)), box b1 23 Qb y3]) (.cons (.next .here) <| .cons .here <| .cons .here <| .cons .here <| .nil) ?_
     refine rdL (n := 3) (H := [box b5 23 Qb x1, box b2 23 Qb (Vector.replicate 32 (0#8)), box b1 23 Qb y3]) (Ls := [⟨[box b4 23 Qb y3], [(2, ⟨Unit, fun (_ : Unit) => [box b4 23 Qb x1], fun (_ : Unit) => []⟩)]⟩]) (.p (plt (ht rfl)) <| .p (plb (ht rfl) (.next (.next .here)) .a) <| .step 0 rfl .here (.inl rfl) (fun i => ⟨_, _, fun _ => (), (qd (r' := x1) (ht rfl) (ht rfl) .here .a (by kernel_rfl) rfl), fun _ => rfl, (Qba (s := any)), QhG⟩) <| .nil) ?_
     rintro _
     refine Je (Γ' := [(1, i64.slot y1), (4, Qt QG p_id), (6, val (.pointer (some ⟨b1, 0, none⟩))), (8, val (.pointer (some ⟨b2, 0, none⟩))), (11, val (.pointer (some ⟨b4, 0, none⟩))), (12, val (.pointer (some ⟨b5, 0, none⟩))), (13, (sl Qb).slot p_path), (14, i64.slot (p_path.length : Int)), (15, i64.slot y2), (25, Qb.slot y3)]) (H' := [box b4 23 Qb x1, box b5 23 Qb x1, box b2 23 Qb (Vector.replicate 32 (0#8)), box b1 23 Qb y3]) .k10 .h4 ?_
     refine jk (r' := y3) (ht rfl) (ht rfl) (.next .here) .a ?_
     refine Qd ?_
     obtain ⟨rfl, rfl⟩ := Prod.mk.inj (oi h)
     exact Q9 .k9 .h4 (J ())
    ·replace h := bf e3 e4
     refine Qm ?_
     obtain ⟨rfl, rfl⟩ := Prod.mk.inj (oi h)
     exact Q9 .k9 .h4 (J ())
  ·replace h := bf e1 h
   obtain rfl := oi h
   exact Jf () .k7 .h2
 ·rintro _
  show Run _ _ _ [(1, i64.slot y6), (4, Qt QG p_id), (6, val (.pointer (some ⟨b1, 0, none⟩))), (8, val (.pointer (some ⟨b2, 0, none⟩))), (13, (sl Qb).slot p_path), (14, i64.slot (p_path.length : Int)), (15, i64.slot y7)] [box b2 23 Qb (Vector.replicate 32 (0#8)), box b1 23 Qb y8]
  refine Q9 (Γ' := [(6, val (.pointer (some ⟨b1, 0, none⟩))), (8, val (.pointer (some ⟨b2, 0, none⟩)))]) (H' := [box b2 23 Qb (Vector.replicate 32 (0#8)), box b1 23 Qb y8]) .k2 .h2 ?_
  refine rs <| rt <| jq (plb (ht rfl) (.next .here) .a) ?_
  refine jk (r' := y8) (ht rfl) (ht rfl) .here .a ?_
  refine Qd ?_
  obtain rfl := oi h
  exact Qo fun a w hst => QL hst rfl (.cell rfl .here (by kernel_rfl)) () (fun _ _ h => h) (.nil)
theorem WF {G : GP} {p_s1 : List (BitVec 8)} {p_s2 : List (BitVec 8)} {r : Bool} (h : Yy p_s1 p_s2 = some r) : Ctr Tryz.prog G 146 [(sl u8).slot p_s1, (sl u8).slot p_s2] [] (fun (_ : Unit) => bl.slot r) (fun (_ : Unit) => []) := by
 unfold Yy at h
 refine Qp Tryz.func146 rfl 26 rfl rfl fun m0 w0 b0 => ?_
 refine Wa fun Qf hq1 hq2 => ?_
 show Run _ _ _ [(0, (sl u8).slot p_s1), (1, (sl u8).slot p_s2)] _
 refine rs <| rt <| jq (pa QU) ?_
 refine Qd <| rs <| rs <| rt <| jm ?_
 refine jq (QX (sz := 1) (ht rfl) (by kernel_rfl)) ?_
 refine jm ?_
 refine jq (QX (sz := 1) (ht rfl) (by kernel_rfl)) ?_
 refine jq (YG (ht rfl) (ht rfl)) ?_
 refine Qd <| Qn (ht rfl) (fun e1 => ?_) (fun e1 => ?_)
 ·replace h := bt e1 h
  refine rs <| rt <| jq (pa QU) ?_
  refine Qd ?_
  obtain rfl := oi h
  exact Qo fun a w hst => QL hst rfl (.tmp rfl) () (fun _ _ h => h) (.nil)
 ·replace h := bf e1 h
  refine Qm <| rs <| rs <| rt <| jm ?_
  refine jq (QX (sz := 1) (ht rfl) (by kernel_rfl)) ?_
  refine jq (pm Qe) ?_
  refine Qd ?_
  obtain ⟨o, e6, h⟩ := bs h
  refine VZ (Γi := fun (i : Unit) (s : Int) => [(0, (sl u8).slot p_s1), (1, (sl u8).slot p_s2), (12, i64.slot (p_s1.length : Int)), (13, i64.slot s)]) (Hi := fun (i : Unit) (s : Int) => []) (R := fun x a w => x = r → Qf a w) e6 () (fun a w hst => (hst.sub .k4).keep (.nil)) ?_ ?_ ?_
  ·clear h e6
   rintro _ y1 lr h
   change Zp p_s1 p_s2 y1 = some _ at h
   show Run _ _ _ [(0, (sl u8).slot p_s1), (1, (sl u8).slot p_s2), (12, i64.slot (p_s1.length : Int)), (13, i64.slot y1)] []
   unfold Zp at h
   refine rs <| rt <| jq (Q7 (ht rfl) (ht rfl)) ?_
   refine Qd <| rs <| Qn (ht rfl) (fun e2 => ?_) (fun e2 => ?_)
   ·replace h := bt e2 h
    refine Qm <| rs <| QJ <| rs <| rt <| jm ?_
    refine ja ?_
    refine Qd <| rs ?_
    obtain ⟨x1, e3, h⟩ := bs h
    obtain ⟨x2, e4, h⟩ := bs h
    refine rd (n := 8) (.m rfl <| .m rfl <| .p (pix (ht rfl) (ht rfl) Qh e3) <| .p (plt (ht rfl)) <| .m rfl <| .m rfl <| .p (pix (ht rfl) (ht rfl) Qh e4) <| .p (plt (ht rfl)) <| .nil) (Je (Γ' := [(0, (sl u8).slot p_s1), (1, (sl u8).slot p_s2), (12, i64.slot (p_s1.length : Int)), (13, i64.slot y1), (19, u8.slot x1), (23, u8.slot x2)]) (H' := []) .k6 (.nil) ?_)
    refine jq (Qev (k := .u8) (b := 8) (ht rfl) (ht rfl)) ?_
    refine Qd <| Qn (ht rfl) (fun e5 => ?_) (fun e5 => ?_)
    ·replace h := bt e5 h
     refine rs <| rt <| jq (pa QU) ?_
     refine Qd ?_
     obtain rfl := oi h
     refine Qo fun a w hst => ⟨rfl, fun hr => ?_⟩
     subst hr
     exact hq2 a w (QL hst rfl (.tmp rfl) () (fun _ _ h => h) (.nil))
    ·replace h := bf e5 h
     refine Qm <| Qs <| rt <| jq (QW (ht rfl) Qe) ?_
     refine jm ?_
     refine Qd ?_
     obtain rfl := oi h
     exact QZ () .k4 (.nil)
   ·replace h := bf e2 h
    obtain rfl := oi h
    exact Jf () .k4 (.nil)
  ·rintro _ y2 ho
   subst ho
   show Run _ _ _ [(0, (sl u8).slot p_s1), (1, (sl u8).slot p_s2), (12, i64.slot (p_s1.length : Int)), (13, i64.slot y2)] []
   refine Q9 (Γ' := []) (H' := []) (.nil) (.nil) ?_
   refine rs <| rt <| jq (pa QU) ?_
   refine Qd ?_
   obtain rfl := oi h
   exact Qo fun a w hst => QL hst rfl (.tmp rfl) () (fun _ _ h => h) (.nil)
  ·intro x a w ho hR
   subst ho
   exact hq1 a w (hR (oi h))
theorem QaR {G : GP} (hg0 : HG0 G) (hg1 : HG1 G) (hg2 : HG2 G) {p_public : List (BitVec 8)} {p_message : List (BitVec 8)} {p_sig : List (BitVec 8)} {r : Bool} (h : Ue p_public p_message p_sig = some r) : Ctr Tryz.prog G 99 [(sl u8).slot p_public, (sl u8).slot p_message, (sl u8).slot p_sig] [] (fun (_ : Unit) => bl.slot r) (fun (_ : Unit) => []) := by
 unfold Ue at h
 refine Qp Tryz.func99 rfl 77 rfl rfl fun m0 w0 b0 => ?_
 show Run _ _ _ [(0, (sl u8).slot p_public), (1, (sl u8).slot p_message), (2, (sl u8).slot p_sig)] _
 refine rs <| rt <| jq (pa QU) ?_
 refine Qd <| rs <| rs <| rt <| jm ?_
 refine jq (QX (sz := 1) (ht rfl) (by kernel_rfl)) ?_
 refine jq (YG (ht rfl) Qe) ?_
 refine Qd <| Qn (ht rfl) (fun e1 => ?_) (fun e1 => ?_)
 ·replace h := bt e1 h
  refine rs <| rt <| jq (pa QU) ?_
  refine Qd ?_
  obtain rfl := oi h
  exact Qo fun a w hst => QL hst rfl (.tmp rfl) () (fun _ _ h => h) (.nil)
 ·replace h := bf e1 h
  refine Qm <| rs <| rt <| jm ?_
  obtain ⟨r1, e2, h⟩ := bs h
  refine jc tl1 (Ui e2) .nil fun b1 => ?_
  refine ja ?_
  refine Qd <| rs <| rt <| jm ?_
  obtain ⟨r2, e3, h⟩ := bs h
  refine jc tl1 (Zk e3) .h1 fun _ => ?_
  refine jq (YQ (by decide) (by kernel_rfl) (ht rfl)) ?_
  refine jm ?_
  obtain ⟨r3, e4, h⟩ := bs h
  refine jc tl1 (Zk e4) .h1 fun _ => ?_
  refine jq (YQ (by decide) (by kernel_rfl) (ht rfl)) ?_
  refine ja ?_
  refine ja ?_
  refine Qd <| rs ?_
  obtain ⟨r4, e5, h⟩ := bs h
  obtain ⟨x1, e6, h⟩ := bs h
  obtain ⟨r5, e7, h⟩ := bs h
  refine Xn (H' := [box b1 208 (prod (sl u8) bl) (r3.1.1, r3.1.2)]) .h1 ?_
  refine rdL (n := 7) (H := []) (Ls := [⟨[box b1 208 (prod (sl u8) bl) (r3.1.1, r3.1.2)], [(1, ⟨Unit, fun (_ : Unit) => [box b1 208 (prod (sl u8) bl) (r4.1.1, r4.1.2)], fun (_ : Unit) => [(29, (sl u8).slot r4.2)]⟩), (5, ⟨Unit, fun (_ : Unit) => [box b1 208 (prod (sl u8) bl) (r5.1.1, r5.1.2)], fun (_ : Unit) => [(33, (sl u8).slot r5.2), (29, (sl u8).slot r4.2)]⟩)]⟩, ⟨[], [(6, ⟨Nat, fun (b2 : Nat) => [box b2 95 QG (Vector.replicate 16 (0#8))], fun (b2 : Nat) => [(10, val (.pointer (some ⟨b2, 0, none⟩)))]⟩)]⟩]) (.m rfl <| .step 0 rfl .here (.inl rfl) (fun i => ⟨_, _, fun _ => (), (wc (hc (ht rfl) <| hc Qe <| Q3) (Zf e5) .h1), fun _ => rfl, Qcp, Bh⟩) <| .p (Qau (e := 5) (ht rfl) e6 rfl (by kernel_rfl)) <| .p (plt (ht rfl)) <| .m rfl <| .step 0 rfl (.next .here) (.inl rfl) (fun i => ⟨_, _, fun _ => (), (wc (hc (ht rfl) <| hc Qe <| Q3) (Zf e7) .h1), fun _ => rfl, Qcp, Bh⟩) <| .step 1 rfl .here (.inl rfl) (fun i => ⟨_, _, fun j => j, (qj (x := (Vector.replicate 16 (0#8))) (R := QG) (QA 16 QH) (by kernel_rfl) rfl), fun _ => rfl, VJ, Bh⟩) <| .nil) ?_
  rintro _ b2
  refine Je (Γ' := [(1, (sl u8).slot p_message), (2, (sl u8).slot p_sig), (8, i64.slot (r2.2.toNat : Int)), (9, i64.slot (r3.2.toNat : Int)), (10, val (.pointer (some ⟨b2, 0, none⟩))), (31, QG.slot x1), (33, (sl u8).slot r5.2)]) (H' := [box b2 95 QG (Vector.replicate 16 (0#8))]) .k7 (.cons (.next .here) <| .nil) ?_
  refine jk (r' := x1) (ht rfl) (ht rfl) .here .a ?_
  refine Jd (t := 10) .here (.of_lk rfl) ?_
  refine ja ?_
  refine Qd <| rs <| rs <| rt <| jm ?_
  refine jm ?_
  obtain ⟨r6, e8, h⟩ := bs h
  refine jq (pc tl2 (Qbb hg0 e8)) ?_
  refine jq (ZI (ht rfl)) ?_
  refine Qd <| Qn (ht rfl) (fun e9 => ?_) (fun e9 => ?_)
  ·replace h := bt e9 h
   refine rs <| rt <| jq (pa QU) ?_
   refine Qd ?_
   obtain rfl := oi h
   exact Qo fun a w hst => QL hst rfl (.tmp rfl) () (fun _ _ h => h) (.nil)
  ·replace h := bf e9 h
   refine Qm <| rs <| rt <| jm ?_
   refine jm ?_
   refine jm ?_
   obtain ⟨r7, e10, h⟩ := bs h
   refine jq (pc tl3 (QdK hg0 e10)) ?_
   refine jm ?_
   refine jx ?_
   refine jx ?_
   refine al (x := (0, ([] : List (BitVec 8)), ([] : List Qa))) (R := QY) (Qk Qx (Qk Jp Jp)) fun b3 => ?_
   refine jk (r' := r7.1) (ht rfl) (ht rfl) .here .a ?_
   refine Jd (t := 12) .here (.of_lk rfl) ?_
   refine ja ?_
   refine Qd <| rs <| rs <| rt <| jm ?_
   refine jq (ZI (ht rfl)) ?_
   refine Qd <| Qn (ht rfl) (fun e11 => ?_) (fun e11 => ?_)
   ·replace h := bt e11 h
    refine rs <| rt <| jq (pa QU) ?_
    refine Qd ?_
    obtain rfl := oi h
    exact Qo fun a w hst => QL hst rfl (.tmp rfl) () (fun _ _ h => h) (.nil)
   ·replace h := bf e11 h
    refine Qm <| rs <| rt <| jl ?_
    refine jq (pft (ht rfl) .f) ?_
    refine jl ?_
    refine jq (Jo (k := .u32) (b := 32) rfl rfl (by kernel_rfl) (ht rfl) Qh) ?_
    refine jm ?_
    refine jq (pft (ht rfl) (.t .s .f)) ?_
    refine jl ?_
    obtain ⟨r8, e12, h⟩ := bs h
    refine jq (pc tl4 (QbQ hg0 hg1 hg2 e12)) ?_
    refine jm ?_
    refine jx ?_
    refine jx ?_
    refine al (x := (Vector.replicate 32 (0#8))) (R := Qb) (QA 32 QH) fun b4 => ?_
    refine jk (r' := r8.1) (ht rfl) (ht rfl) .here .a ?_
    refine Jd (t := 14) .here (.of_lk rfl) ?_
    refine ja ?_
    refine Qd <| rs <| rs <| rt <| jm ?_
    refine jq (ZI (ht rfl)) ?_
    refine Qd <| Qn (ht rfl) (fun e13 => ?_) (fun e13 => ?_)
    ·replace h := bt e13 h
     refine rs <| rt <| jq (pa QU) ?_
     refine Qd ?_
     obtain rfl := oi h
     exact Qo fun a w hst => QL hst rfl (.tmp rfl) () (fun _ _ h => h) (.nil)
    ·replace h := bf e13 h
     refine Qm <| rs ?_
     obtain ⟨e14, h⟩ := QS h
     refine rd (n := 4) (.m rfl <| .p (KR Qe (ht rfl) Qh e14) <| .p (pft (ht rfl) .f) <| .p (plt (ht rfl)) <| .nil) (Je (Γ' := [(10, Qt QG x1), (11, (sl u8).slot r5.2), (12, Qt QY r7.1), (14, Qt Qb r8.1), (61, i64.slot (Xq (1 : Int) (r2.2.toNat : Int))), (63, i64.slot r7.1.1)]) (H' := []) .k6 (.nil) ?_)
     refine jq (QW (ht rfl) (ht rfl)) ?_
     obtain ⟨x2, e15, h⟩ := bs h
     refine jq (PJ.eqv (pa (ht rfl)) (oi e15)) ?_
     refine Qd <| rs ?_
     obtain ⟨r9, e16, h⟩ := bs h
     obtain ⟨r10, e17, h⟩ := bs h
     refine Xn (H' := []) (.nil) ?_
     refine rdL (n := 10) (H := []) (Ls := [⟨[], [(9, ⟨Nat, fun (b5 : Nat) => [box b5 23 Qb (Vector.replicate 32 (0#8))], fun (b5 : Nat) => [(16, val (.pointer (some ⟨b5, 0, none⟩)))]⟩)]⟩]) (.p (plt (ht rfl)) <| .m rfl <| .p (plt (ht rfl)) <| .m rfl <| .p (plt (ht rfl)) <| .p (pc tl3 (QcM hg1 hg2 e16)) <| .p (pft (ht rfl) (.t .s .s)) <| .p (plt (ht rfl)) <| .p (pc tl4 (QeH hg1 hg2 e17)) <| .step 0 rfl .here (.inl rfl) (fun i => ⟨_, _, fun j => j, (qj (x := (Vector.replicate 32 (0#8))) (R := Qb) (QA 32 QH) (by kernel_rfl) rfl), fun _ => rfl, VJ, Bh⟩) <| .nil) ?_
     rintro b5
     refine Je (Γ' := [(11, (sl u8).slot r5.2), (16, val (.pointer (some ⟨b5, 0, none⟩))), (73, Qb.slot r10)]) (H' := [box b5 23 Qb (Vector.replicate 32 (0#8))]) .k3 .h1 ?_
     refine jk (r' := r10) (ht rfl) (ht rfl) .here .a ?_
     refine Jd (t := 16) .here (.of_lk rfl) ?_
     refine Qd <| rs <| rt <| jq (JA (ht rfl) (by decide) (by kernel_rfl)) ?_
     refine jm ?_
     obtain ⟨r11, e18, h⟩ := bs h
     refine jq (pc tl2 (WF e18)) ?_
     refine ja ?_
     refine Qd ?_
     obtain rfl := oi h
     exact Qo fun a w hst => QL hst rfl (.tmp rfl) () (fun _ _ h => h) (.nil)
theorem Qek {G : GP} (hg0 : HG0 G) (hg1 : HG1 G) (hg2 : HG2 G) {p_public : List (BitVec 8)} {p_message : List (BitVec 8)} {p_signature : List (BitVec 8)} {r : Bool} (h : U9 p_public p_message p_signature = some r) : Ctr Tryz.prog G 53 [(sl u8).slot p_public, (sl u8).slot p_message, (sl u8).slot p_signature] [] (fun (_ : Unit) => bl.slot r) (fun (_ : Unit) => []) := by
 unfold U9 at h
 refine Qp Tryz.func53 rfl 60 rfl rfl fun m0 w0 b0 => ?_
 show Run _ _ _ [(0, (sl u8).slot p_public), (1, (sl u8).slot p_message), (2, (sl u8).slot p_signature)] _
 refine rs <| rt <| jq (pa QU) ?_
 refine Qd <| rs <| rs <| rt <| jm ?_
 refine jq (QX (sz := 1) (ht rfl) (by kernel_rfl)) ?_
 refine jq (YG (ht rfl) Qe) ?_
 refine Qd <| Qn (ht rfl) (fun e1 => ?_) (fun e1 => ?_)
 ·replace h := bt e1 h
  refine rs <| rt <| jq (pa QU) ?_
  refine Qd ?_
  obtain rfl := oi h
  exact Qo fun a w hst => QL hst rfl (.tmp rfl) () (fun _ _ h => h) (.nil)
 ·replace h := bf e1 h
  refine Qm <| rs <| rt <| jm ?_
  obtain ⟨r1, e2, h⟩ := bs h
  refine jc tl1 (Ui e2) .nil fun b1 => ?_
  refine ja ?_
  refine Qd <| rs <| rs <| rt <| jm ?_
  obtain ⟨r2, e3, h⟩ := bs h
  refine jc tl1 (Zk e3) .h1 fun _ => ?_
  refine jq (Qev (k := .u32) (b := 32) (ht rfl) (QE (x := 2#32) rfl)) ?_
  refine Qd <| Qn (ht rfl) (fun e4 => ?_) (fun e4 => ?_)
  ·replace h := bt e4 h
   refine rs <| rt <| jq (pa QU) ?_
   refine Qd ?_
   obtain rfl := oi h
   exact Qo fun a w hst => QL hst rfl (.tmp rfl) () (fun _ _ h => h) (.nil)
  ·replace h := bf e4 h
   refine Qm <| rs <| rt <| jm ?_
   obtain ⟨r3, e5, h⟩ := bs h
   refine jc tl1 (Zk e5) .h1 fun _ => ?_
   refine jq (YQ (by decide) (by kernel_rfl) (ht rfl)) ?_
   refine jm ?_
   obtain ⟨r4, e6, h⟩ := bs h
   refine jc tl1 (Zk e6) .h1 fun _ => ?_
   refine jq (YQ (by decide) (by kernel_rfl) (ht rfl)) ?_
   refine ja ?_
   refine ja ?_
   refine Qd <| rs <| rt <| jm ?_
   obtain ⟨r5, e7, h⟩ := bs h
   refine jc tl1 (Ui e7) .nil fun b2 => ?_
   refine ja ?_
   refine Qd <| rs <| rs <| rt <| jm ?_
   obtain ⟨r6, e8, h⟩ := bs h
   refine jc tl1 (Zk e8) .h1 fun _ => ?_
   refine jq (Qev (k := .u32) (b := 32) (ht rfl) (QE (x := 1#32) rfl)) ?_
   refine Qd <| Qn (ht rfl) (fun e9 => ?_) (fun e9 => ?_)
   ·replace h := bt e9 h
    refine rs <| rt <| jq (pa QU) ?_
    refine Qd ?_
    obtain rfl := oi h
    exact Qo fun a w hst => QL hst rfl (.tmp rfl) () (fun _ _ h => h) (.nil)
   ·replace h := bf e9 h
    refine Qm <| rs <| rt <| jm ?_
    refine jm ?_
    refine jm ?_
    obtain ⟨r7, e10, h⟩ := bs h
    refine jq (pc tl2 (qZ hg0 e10)) ?_
    obtain ⟨r8, e11, h⟩ := bs h
    refine jc tl2 (Zf e11) .h1 fun _ => ?_
    refine ja ?_
    refine Qd <| rs <| rt <| jm ?_
    obtain ⟨r9, e12, h⟩ := bs h
    refine jc (hc (ht rfl) <| hc Qe <| Q3) (Zf e12) .h1 fun _ => ?_
    refine ja ?_
    refine Qd <| rs <| rt <| jm ?_
    refine jm ?_
    obtain ⟨r10, e13, h⟩ := bs h
    refine jq (Vo tl1 .here (by kernel_rfl) (fun _ => (Wb e13))) ?_
    obtain ⟨r11, e14, h⟩ := bs h
    refine jc tl2 (Zf e14) .h1 fun _ => ?_
    refine ja ?_
    refine Qd <| rs <| rt <| jm ?_
    obtain ⟨r12, e15, h⟩ := bs h
    refine jq (Vo tl1 .here (by kernel_rfl) (fun _ => (UM e15))) ?_
    refine jq (ZI (ht rfl)) ?_
    refine jm ?_
    obtain ⟨y1, e17, h⟩ := bs h
    refine Jz (ι := Unit) (Γ' := fun _ => [(1, (sl u8).slot p_message), (12, (sl u8).slot r9.2), (13, (sl u8).slot r11.2), (53, bl.slot y1)]) (H' := fun _ => []) 6 ?_ fun J => ?_
    ·intro _
     clear e17
     show Jc _ _ _ [(1, (sl u8).slot p_message), (12, (sl u8).slot r9.2), (13, (sl u8).slot r11.2), (53, bl.slot y1)] [] _
     refine jm ?_
     obtain ⟨y2, e21, h⟩ := bs h
     refine Jz (ι := Unit) (Γ' := fun _ => [(59, bl.slot y2)]) (H' := fun _ => []) 5 ?_ fun J => ?_
     ·intro _
      clear e21
      show Jc _ _ _ [(59, bl.slot y2)] [] _
      refine ja ?_
      refine Qd ?_
      obtain rfl := oi h
      exact Qo fun a w hst => QL hst rfl (.tmp rfl) () (fun _ _ h => h) (.nil)
     ·rcases Jl (y1) with e20 | e20
      ·replace e21 := bt e20 e21
       refine jz (pm (ht rfl)) e20 ?_
       refine jz (pm (ht rfl)) e20 ?_
       refine jz (pm (ht rfl)) e20 ?_
       obtain ⟨r14, e22, e21⟩ := bind_some e21
       refine jz (pc tl3 (QaR hg0 hg1 hg2 e22)) e20 ?_
       refine jq (pk1 e20 (ht rfl) (oi e21)) ?_
       exact Je .k1 (.nil) (J ())
      ·replace e21 := bf e20 e21
       refine jn e20 ?_
       refine jn e20 ?_
       refine jn e20 ?_
       refine jn e20 ?_
       refine jq (pk2 e20 QU (oi e21)) ?_
       exact Je .k1 (.nil) (J ())
    ·rcases Jl (!r12) with e16 | e16
     ·replace e17 := bt e16 e17
      refine jz (pm (ht rfl)) e16 ?_
      obtain ⟨x1, e18, e17⟩ := bind_some e17
      refine jz (ZH (ht rfl) (.yes Qe Qh) .no e18 (by kernel_rfl)) e16 ?_
      refine jz (pm (ht rfl)) e16 ?_
      refine jz (pm (ht rfl)) e16 ?_
      obtain ⟨r13, e19, e17⟩ := bind_some e17
      refine jz (pc tl3 (QaR hg0 hg1 hg2 e19)) e16 ?_
      refine jq (pk1 e16 (ht rfl) (oi e17)) ?_
      exact Je .k4 (.nil) (J ())
     ·replace e17 := bf e16 e17
      refine jn e16 ?_
      refine jn e16 ?_
      refine jn e16 ?_
      refine jn e16 ?_
      refine jn e16 ?_
      refine jq (pk2 e16 QU (oi e17)) ?_
      exact Je .k4 (.nil) (J ())
theorem QdZ {G : GP} (hg0 : HG0 G) (hg1 : HG1 G) (hg2 : HG2 G) {p_s : Qr} {p_public : List (BitVec 8)} {r : Bool} (h : Kt p_s p_public = some r) : Ctr Tryz.prog G 14 [Qg.slot p_s, (sl u8).slot p_public] [] (fun (_ : Unit) => bl.slot r) (fun (_ : Unit) => []) := by
 unfold Kt at h
 refine Qp Tryz.func14 rfl 22 rfl rfl fun m0 w0 b0 => ?_
 show Run _ _ _ [(0, Qg.slot p_s), (1, (sl u8).slot p_public)] _
 refine rs <| rt <| jq (Q0 (ht rfl)) ?_
 refine jq (pa QU) ?_
 refine Qd <| rs <| rt <| jq (pft (ht rfl) .f) ?_
 refine jl ?_
 obtain ⟨r1, e1, h⟩ := bs h
 refine jq (pc tl1 (Ctr.froze2 (qB e1))) ?_
 refine jm ?_
 refine jx ?_
 refine jx ?_
 refine ja ?_
 refine ja ?_
 refine Qd <| rs <| rt <| jm ?_
 refine jq (ZJ (ht rfl) Qe) ?_
 refine jm ?_
 obtain ⟨y1, e3, h⟩ := bs h
 refine Jz (ι := Unit) (Γ' := fun _ => [(21, bl.slot y1)]) (H' := fun _ => []) 6 ?_ fun J => ?_
 ·intro _
  clear e3
  show Jc _ _ _ [(21, bl.slot y1)] [] _
  refine ja ?_
  refine Qd ?_
  obtain rfl := oi h
  exact Qo fun a w hst => QL hst rfl (.tmp rfl) () (fun _ _ h => h) (.nil)
 ·rcases Jl (decide (r1.2 = (0 : Int))) with e2 | e2
  ·replace e3 := bt e2 e3
   refine jz (pm (ht rfl)) e2 ?_
   refine jz (pm (ht rfl)) e2 ?_
   refine jz (pft (ht rfl) .s) e2 ?_
   refine jz (plt (ht rfl)) e2 ?_
   obtain ⟨r2, e4, e3⟩ := bind_some e3
   refine jz (pc tl3 (Qek hg0 hg1 hg2 e4)) e2 ?_
   refine jq (pk1 e2 (ht rfl) (oi e3)) ?_
   exact Je .k1 (.nil) (J ())
  ·replace e3 := bf e2 e3
   refine jn e2 ?_
   refine jn e2 ?_
   refine jn e2 ?_
   refine jn e2 ?_
   refine jn e2 ?_
   refine jq (pk2 e2 QU (oi e3)) ?_
   exact Je .k1 (.nil) (J ())
theorem K5 {G : GP} {p_s : Qr} {p_e : Int} {r : Int} (h : YC p_s p_e = some r) : Ctr Tryz.prog G 103 [Qg.slot p_s, i64.slot p_e] [] (fun (_ : Unit) => i64.slot r) (fun (_ : Unit) => []) := by
 unfold YC at h
 refine Qp Tryz.func103 rfl 10 rfl rfl fun m0 w0 b0 => ?_
 show Run _ _ _ [(0, Qg.slot p_s), (1, i64.slot p_e)] _
 refine rs <| rt <| jq (Q0 (ht rfl)) ?_
 refine jq (pa Qe) ?_
 refine Qd <| rs <| rt <| jq (pft (ht rfl) .f) ?_
 refine jq (pft (ht rfl) .f) ?_
 refine jl ?_
 refine jm ?_
 refine jq (JS (ht rfl) (ht rfl)) ?_
 refine ja ?_
 refine Qd ?_
 obtain rfl := oi h
 exact Qo fun a w hst => QL hst rfl (.tmp rfl) () (fun _ _ h => h) (.nil)
theorem ZO {G : GP} {p_x : List Qr} {p_target : Int} {r : Int × Bool} (h : Q8 p_x p_target = some r) : Ctr Tryz.prog G 102 [(sl Qg).slot p_x, i64.slot p_target, fnS 103 []] [] (fun (_ : Unit) => tup [i64.slot r.1, bl.slot r.2]) (fun (_ : Unit) => []) := by
 unfold Q8 at h
 refine Qp Tryz.func102 rfl 49 rfl rfl fun m0 w0 b0 => ?_
 show Run _ _ _ [(0, (sl Qg).slot p_x), (1, i64.slot p_target), (2, fnS 103 [])] _
 refine rs <| rt <| jq (pa Qe) ?_
 refine jq (pa QU) ?_
 refine Qd <| rs <| rt <| jm ?_
 refine jq (QX (sz := 67) (ht rfl) (by kernel_rfl)) ?_
 refine ja ?_
 refine Qd <| rs <| rt <| jm ?_
 refine jq (pa Qe) ?_
 refine ja ?_
 refine Qd <| rs ?_
 obtain ⟨⟨y3, y4⟩, e6, h⟩ := bs h
 refine Q2 (Γi := fun (i : Unit) (s : Int × Int) => [(0, (sl Qg).slot p_x), (1, i64.slot p_target), (2, fnS 103 []), (8, i64.slot (p_x.length : Int)), (9, i64.slot s.1), (10, i64.slot s.2)]) (Hi := fun (i : Unit) (s : Int × Int) => []) e6 () (fun a w hst => (hst.sub .k6).keep (.nil)) ?_ ?_
 ·clear h e6
  rintro _ ⟨y1, y2⟩ lr h
  change QP p_x p_target y1 y2 = some _ at h
  show Run _ _ _ [(0, (sl Qg).slot p_x), (1, i64.slot p_target), (2, fnS 103 []), (8, i64.slot (p_x.length : Int)), (9, i64.slot y1), (10, i64.slot y2)] []
  unfold QP at h
  refine rs <| rs <| rt <| jm ?_
  refine jm ?_
  refine jq (Q7 (ht rfl) (ht rfl)) ?_
  refine Qd <| Qn (ht rfl) (fun e1 => ?_) (fun e1 => ?_)
  ·replace h := bt e1 h
   refine Qm <| QJ <| rs <| rt <| jm ?_
   refine jm ?_
   refine jq (QW (ht rfl) (ht rfl)) ?_
   refine jq (Jo (k := .u64) (b := 64) rfl rfl (by kernel_rfl) (ht rfl) Qh) ?_
   refine jq (Xe (k := .u64) (b := 64) rfl (ht rfl) (QE (x := 1#64) rfl) JY (Int.natCast_nonneg _)) ?_
   refine jq (QbK (by kernel_rfl) (ht rfl) JY) ?_
   obtain ⟨x1, e2, h⟩ := bs h
   refine jq (PJ.eqv (pa (ht rfl)) (oi e2)) ?_
   refine Qd <| rs <| rt <| jm ?_
   refine jm ?_
   refine jm ?_
   obtain ⟨x2, e3, h⟩ := bs h
   refine jq (pix (ht rfl) (ht rfl) Qh e3) ?_
   refine jl ?_
   refine jm ?_
   obtain ⟨r1, e4, h⟩ := bs h
   refine jq (QcS (ht rfl) tl2 (by kernel_rfl) (K5 e4)) ?_
   refine jq (Q7 (ht rfl) Qe) ?_
   refine Qd <| Qn (ht rfl) (fun e5 => ?_) (fun e5 => ?_)
   ·replace h := bt e5 h
    refine rt <| jm ?_
    refine jq (QW (ht rfl) Qe) ?_
    refine ja ?_
    refine Qd <| Qs ?_
    obtain rfl := oi h
    exact QZ () .k6 (.nil)
   ·replace h := bf e5 h
    refine rt <| jm ?_
    refine ja ?_
    refine Qd <| Qs ?_
    obtain rfl := oi h
    exact QZ () .k6 (.nil)
  ·replace h := bf e1 h
   obtain rfl := oi h
   exact Jf () .k6 (.nil)
 ·rintro _
  show Run _ _ _ [(0, (sl Qg).slot p_x), (1, i64.slot p_target), (2, fnS 103 []), (8, i64.slot (p_x.length : Int)), (9, i64.slot y3), (10, i64.slot y4)] []
  refine Q9 (Γ' := [(0, (sl Qg).slot p_x), (1, i64.slot p_target), (2, fnS 103 []), (8, i64.slot (p_x.length : Int)), (9, i64.slot y3)]) (H' := []) .k5 (.nil) ?_
  refine rs <| rt <| jm ?_
  refine jm ?_
  refine jm ?_
  refine jq (Q7 (ht rfl) (ht rfl)) ?_
  refine jm ?_
  obtain ⟨y5, e8, h⟩ := bs h
  refine Jz (ι := Unit) (Γ' := fun _ => [(35, i64.slot y3), (48, bl.slot y5)]) (H' := fun _ => []) 9 ?_ fun J => ?_
  ·intro _
   clear e8
   show Jc _ _ _ [(35, i64.slot y3), (48, bl.slot y5)] [] _
   refine ja ?_
   refine ja ?_
   refine Qd ?_
   obtain rfl := oi h
   exact Qo fun a w hst => JV hst rfl (.cons (.tmp rfl) <| .cons (.tmp rfl) <| .nil) rfl () (fun _ _ h => h) (.nil)
  ·rcases Jl (decide (y3 < (p_x.length : Int))) with e7 | e7
   ·replace e8 := bt e7 e8
    refine jz (pm (ht rfl)) e7 ?_
    refine jz (pm (ht rfl)) e7 ?_
    refine jz (pm (ht rfl)) e7 ?_
    obtain ⟨x3, e9, e8⟩ := bind_some e8
    refine jz (pix (ht rfl) (ht rfl) Qh e9) e7 ?_
    refine jz (plt (ht rfl)) e7 ?_
    refine jz (pm (ht rfl)) e7 ?_
    obtain ⟨r2, e10, e8⟩ := bind_some e8
    refine jz (QcS (ht rfl) tl2 (by kernel_rfl) (K5 e10)) e7 ?_
    refine jz (ZJ (ht rfl) Qe) e7 ?_
    refine jq (pk1 e7 (ht rfl) (oi e8)) ?_
    exact Je .k2 (.nil) (J ())
   ·replace e8 := bf e7 e8
    refine jn e7 ?_
    refine jn e7 ?_
    refine jn e7 ?_
    refine jn e7 ?_
    refine jn e7 ?_
    refine jn e7 ?_
    refine jn e7 ?_
    refine jn e7 ?_
    refine jq (pk2 e7 QU (oi e8)) ?_
    exact Je .k2 (.nil) (J ())
theorem Xb {G : GP} {p_p : Option Zb} {p_e : Int} {r : Int × Bool} (h : JH p_p p_e = some r) : Ctr Tryz.prog G 58 [(ptr Ja).slot p_p, i64.slot p_e] [] (fun (_ : Unit) => tup [i64.slot r.1, bl.slot r.2]) (fun (_ : Unit) => []) := by
 unfold JH at h
 refine Qp Tryz.func58 rfl 14 rfl rfl fun m0 w0 b0 => ?_
 show Run _ _ _ [(0, (ptr Ja).slot p_p), (1, i64.slot p_e)] _
 refine rs <| rt <| jq (pa Qe) ?_
 refine jq (pa QU) ?_
 refine Qd <| rs <| rt <| jm ?_
 obtain ⟨x1, e1, h⟩ := bs h
 refine jq (JC (ht rfl) e1) ?_
 refine jq (pft (ht rfl) (.t .s .f)) ?_
 refine jl ?_
 refine jm ?_
 obtain ⟨r1, e2, h⟩ := bs h
 refine jq (pc (hc (ht rfl) <| hc (ht rfl) <| hc Qju <| Q3) (ZO e2)) ?_
 refine jx ?_
 refine jx ?_
 refine ja ?_
 refine ja ?_
 refine Qd ?_
 obtain rfl := oi h
 exact Qo fun a w hst => JV hst rfl (.cons (.tmp rfl) <| .cons (.tmp rfl) <| .nil) rfl () (fun _ _ h => h) (.nil)
theorem Bg {G : GP} {p_f : Qw} {q_0 : Int} {r : Bool} (h : VU p_f q_0 = some r) : Ctr Tryz.prog G 105 [Qj.slot p_f, Qt i64 q_0] [] (fun (_ : Unit) => bl.slot r) (fun (_ : Unit) => []) := by
 unfold VU at h
 refine Qp Tryz.func105 rfl 10 rfl rfl fun m0 w0 b0 => ?_
 show Run _ _ _ [(0, Qj.slot p_f), (1, Qt i64 q_0)] _
 refine rs <| rt <| jq (Q0 (ht rfl)) ?_
 refine jq (pa QU) ?_
 refine Qd <| rs <| rt <| jq (pft (ht rfl) .f) ?_
 refine jq (pft (ht rfl) .f) ?_
 refine jq (pft (ht rfl) .f) ?_
 refine jl ?_
 refine jl ?_
 refine jq (ZJ (ht rfl) (ht rfl)) ?_
 refine ja ?_
 refine Qd ?_
 obtain rfl := oi h
 exact Qo fun a w hst => QL hst rfl (.tmp rfl) () (fun _ _ h => h) (.nil)
theorem Ys {G : GP} {p_s : List Qw} {k1_0 : Int} {r : Int} (h : JD p_s k1_0 = some r) : Ctr Tryz.prog G 147 [(sl Qj).slot p_s, fnS 105 [Qt i64 k1_0]] [] (fun (_ : Unit) => i64.slot r) (fun (_ : Unit) => []) := by
 unfold JD at h
 refine Qp Tryz.func147 rfl 19 rfl rfl fun m0 w0 b0 => ?_
 refine Wa fun Qf hq1 hq2 => ?_
 show Run _ _ _ [(0, (sl Qj).slot p_s), (1, fnS 105 [Qt i64 k1_0])] _
 refine rs <| rt <| jq (pa Qe) ?_
 refine Qd <| rs <| rs <| rt <| jm ?_
 refine jq (QX (sz := 134) (ht rfl) (by kernel_rfl)) ?_
 refine jq (pm Qe) ?_
 refine Qd ?_
 obtain ⟨o, e5, h⟩ := bs h
 refine VZ (Γi := fun (i : Unit) (s : Int) => [(0, (sl Qj).slot p_s), (1, fnS 105 [Qt i64 k1_0]), (7, i64.slot (p_s.length : Int)), (8, i64.slot s)]) (Hi := fun (i : Unit) (s : Int) => []) (R := fun x a w => x = r → Qf a w) e5 () (fun a w hst => (hst.sub .k4).keep (.nil)) ?_ ?_ ?_
 ·clear h e5
  rintro _ y1 lr h
  change Jv p_s k1_0 y1 = some _ at h
  show Run _ _ _ [(0, (sl Qj).slot p_s), (1, fnS 105 [Qt i64 k1_0]), (7, i64.slot (p_s.length : Int)), (8, i64.slot y1)] []
  unfold Jv at h
  refine rs <| rt <| jq (Q7 (ht rfl) (ht rfl)) ?_
  refine Qd <| rs <| Qn (ht rfl) (fun e1 => ?_) (fun e1 => ?_)
  ·replace h := bt e1 h
   refine Qm <| rs <| QJ <| rs <| rt <| jm ?_
   refine ja ?_
   refine Qd <| rs <| rt <| jm ?_
   refine jm ?_
   refine jm ?_
   obtain ⟨x1, e2, h⟩ := bs h
   refine jq (pix (ht rfl) (ht rfl) Qh e2) ?_
   refine jl ?_
   obtain ⟨r1, e3, h⟩ := bs h
   refine jq (QcS (ht rfl) tl1 (by kernel_rfl) (Bg e3)) ?_
   refine Qd <| Qn (ht rfl) (fun e4 => ?_) (fun e4 => ?_)
   ·replace h := bt e4 h
    refine rs <| rt <| jm ?_
    refine ja ?_
    refine Qd ?_
    obtain rfl := oi h
    refine Qo fun a w hst => ⟨rfl, fun hr => ?_⟩
    subst hr
    exact hq2 a w (QL hst rfl (.tmp rfl) () (fun _ _ h => h) (.nil))
   ·replace h := bf e4 h
    refine Qm <| Qs <| rt <| jq (QW (ht rfl) Qe) ?_
    refine jm ?_
    refine Qd ?_
    obtain rfl := oi h
    exact QZ () .k4 (.nil)
  ·replace h := bf e1 h
   obtain rfl := oi h
   exact Jf () .k4 (.nil)
 ·rintro _ y2 ho
  subst ho
  show Run _ _ _ [(0, (sl Qj).slot p_s), (1, fnS 105 [Qt i64 k1_0]), (7, i64.slot (p_s.length : Int)), (8, i64.slot y2)] []
  refine Q9 (Γ' := []) (H' := []) (.nil) (.nil) ?_
  refine rs <| rt <| jq (pa Qe) ?_
  refine Qd ?_
  obtain rfl := oi h
  exact Qo fun a w hst => QL hst rfl (.tmp rfl) () (fun _ _ h => h) (.nil)
 ·intro x a w ho hR
  subst ho
  exact hq1 a w (hR (oi h))
theorem Yf {G : GP} {p_s : List Qw} {k1_0 : Int} {r : Bool} (h : Jw p_s k1_0 = some r) : Ctr Tryz.prog G 104 [(sl Qj).slot p_s, fnS 105 [Qt i64 k1_0]] [] (fun (_ : Unit) => bl.slot r) (fun (_ : Unit) => []) := by
 unfold Jw at h
 refine Qp Tryz.func104 rfl 9 rfl rfl fun m0 w0 b0 => ?_
 show Run _ _ _ [(0, (sl Qj).slot p_s), (1, fnS 105 [Qt i64 k1_0])] _
 refine rs <| rt <| jq (pa QU) ?_
 refine Qd <| rs <| rt <| jm ?_
 refine jm ?_
 obtain ⟨r1, e1, h⟩ := bs h
 refine jq (pc tl2 (Ys e1)) ?_
 refine jq (XF (ht rfl) Qe) ?_
 refine ja ?_
 refine Qd ?_
 obtain rfl := oi h
 exact Qo fun a w hst => QL hst rfl (.tmp rfl) () (fun _ _ h => h) (.nil)
theorem BG {G : GP} {p_p : Option Zb} {p_e : Int} {r : Bool} (h : Ks p_p p_e = some r) : Ctr Tryz.prog G 59 [(ptr Ja).slot p_p, i64.slot p_e] [] (fun (_ : Unit) => bl.slot r) (fun (_ : Unit) => []) := by
 unfold Ks at h
 refine Qp Tryz.func59 rfl 11 rfl rfl fun m0 w0 b0 => ?_
 show Run _ _ _ [(0, (ptr Ja).slot p_p), (1, i64.slot p_e)] _
 refine rs <| rt <| jq (Q0 (ht rfl)) ?_
 refine jq (pa QU) ?_
 refine Qd <| rs <| rt <| jm ?_
 obtain ⟨x1, e1, h⟩ := bs h
 refine jq (JC (ht rfl) e1) ?_
 refine jq (pft (ht rfl) (.t .s (.t .s .f))) ?_
 refine jl ?_
 refine jq (Wy tl1) ?_
 obtain ⟨r1, e2, h⟩ := bs h
 refine jq (pc tl2 (Yf e2)) ?_
 refine ja ?_
 refine Qd ?_
 obtain rfl := oi h
 exact Qo fun a w hst => QL hst rfl (.tmp rfl) () (fun _ _ h => h) (.nil)
theorem Xz {G : GP} {p_s : Qr} {r : Qr} (h : Yt p_s = some r) : Ctr Tryz.prog G 60 [Qg.slot p_s] [] (fun (_ : Unit) => Qg.slot r) (fun (_ : Unit) => []) := by
 unfold Yt at h
 refine Qp Tryz.func60 rfl 8 rfl rfl fun m0 w0 b0 => ?_
 show Run _ _ _ [(0, Qg.slot p_s)] _
 refine rs <| rt <| Bq (ht rfl) rfl fun b1 => ?_
 refine al (x := ((0, 0, (Vector.replicate 32 (0#8)), (Vector.replicate 32 (0#8))), ([] : List (BitVec 8)))) (R := Qg) (Qk (Qk Qx (Qk Qx (Qk (QA 32 QH) (QA 32 QH)))) Jp) fun b2 => ?_
 refine Qd <| rs <| rt <| jq (pfp (off := 66) (ht rfl)) ?_
 refine jq (plb (ht rfl) (.next .here) (.t .a .s)) ?_
 obtain ⟨r1, e1, h⟩ := bs h
 refine jq (pc tl1 (Ctr.froze (YT e1))) ?_
 refine jq (pfp (off := 66) (ht rfl)) ?_
 refine jk (r' := (p_s.1, r1)) (ht rfl) (ht rfl) (.next .here) (.t .a .s) ?_
 refine Qd <| rs <| rt <| jq (plb (ht rfl) .here .a) ?_
 refine jk (r' := (p_s.1, r1)) (ht rfl) (ht rfl) (.next .here) .a ?_
 refine Qd ?_
 obtain rfl := oi h
 exact Qo fun a w hst => QL hst rfl (.cell rfl .here (by kernel_rfl)) () (fun _ _ h => h) (.nil)
theorem VL {G : GP} {p_s : List Qr} {p_i : Int} {p_v : List Qr} {v_s v_v : Value} {r : List Qr} (h : ZR p_s p_i p_v = some r) :
  Ctr Tryz.prog G 61 [ov v_s, i64.slot p_i, ov v_v] [own 33 Qg v_s p_s, own 33 Qg v_v p_v] (fun (u0 : Value) => ov u0) (fun (u0 : Value) => [own 33 Qg u0 r]) := by
 obtain ⟨i, y, rfl, hi, rfl, hn, hr⟩ := Qjp h
 clear h
 have w1 : w64 ((p_s.length : Int) + 1) = ((p_s.length + 1 : Nat) : Int) := Jk (by omega)
 have w2 : w64 ((i : Int) + 1) = ((i + 1 : Nat) : Int) := Jk (by omega)
 have w3 : w64 (((p_s.length + 1 : Nat) : Int) - (i : Int)) = ((p_s.length + 1 - i : Nat) : Int) := by rw [Jk (by omega)]; omega
 refine Qp Tryz.func61 rfl 95 rfl rfl fun m0 w0 b0 => ?_
 show Run _ _ _ [(0, ov v_s), (1, i64.slot (i : Int)), (2, ov v_v)] _
 refine rs <| rt <| QN (T := 33) Qg rfl fun v1 => ?_
 refine Qd <| rs <| rt <| jm ?_
 refine jm ?_
 refine jq (Qbk (sz := 67) (ht rfl) (.next .here) (ht rfl) Qh (by omega) (by omega) (by kernel_rfl)) ?_
 refine Qd <| rs <| rt <| jm ?_
 refine jq (PJ.eqv (y := (1 : Int)) (YP (sz := 67) (ht rfl) (.next (.next .here)) (by kernel_rfl)) rfl) ?_
 refine ja ?_
 refine Qd <| rs <| rs <| rt <| jm ?_
 refine jq (ZJ (ht rfl) Qe) ?_
 refine Qd <| Yi (ht rfl) rfl ?_
 refine Qm <| rs <| rt <| jm ?_
 refine jq (YP (sz := 67) (ht rfl) (.next .here) (by kernel_rfl)) ?_
 refine ja ?_
 refine Qd <| rs <| rs <| rt <| jm ?_
 refine jm ?_
 refine jq (ZJ (ht rfl) (ht rfl)) ?_
 refine Qd <| Qn (ht rfl) (fun e5 => ?_) (fun e5 => ?_)
 ·have e6 : i = p_s.length := by have := of_decide_eq_true e5; omega
  subst e6
  have e7 : r = p_s ++ [y] := by rw [hr]; simp
  subst e7
  refine rs <| rt <| jm ?_
  refine jm ?_
  refine JQ (T := 33) (E := 33) (ht rfl) (.next .here) (QkB (ht rfl) (.next (.next .here))) (by kernel_rfl) (by kernel_rfl) (by simp; omega) rfl fun v2 => ?_
  refine ja ?_
  exact Qd <| Qo fun a w hst => QL hst rfl (.tmp rfl) v2 (fun _ _ h => h) .h1
 ·have e6 : i < p_s.length := by have := of_decide_eq_false e5; omega
  have hne : p_s ≠ [] := by intro h; rw [h] at e6; simp at e6
  refine Qm <| rs <| rs <| rt <| QdJ (.next .here) hne fun b n1 hv1 => ?_
  subst hv1
  refine QdJ (.next (.next .here)) (by simp) fun b2 n2 hv2 => ?_
  subst hv2
  refine jm ?_
  refine jm ?_
  refine jq (PJ.eqv (QW (ht rfl) (ht rfl)) w1) ?_
  refine jm ?_
  refine jq (qO (sz := 67) (Ku (ht rfl)) (by kernel_rfl)) ?_
  refine jq (Xt (ht rfl) (ht rfl)) ?_
  refine Qd <| Qn (ht rfl) (fun e8 => ?_) (fun e8 => ?_)
  ·have e9 : p_s.length + n1 < p_s.length + 1 := by have := of_decide_eq_true e8; omega
   refine rs <| rt <| jm ?_
   refine jm ?_
   refine jq (YX (sz := 67) (Ku (ht rfl)) .no (.yes (ht rfl) Qh) 0 i rfl rfl (by omega) (by omega) (by omega) (by kernel_rfl)) ?_
   refine jm ?_
   refine jm ?_
   refine jq (PJ.eqv (QW (ht rfl) (ht rfl)) w1) ?_
   refine jm ?_
   refine jq (PJ.eqv (JS (ht rfl) (ht rfl)) w3) ?_
   refine QhA (kn := .i64) (T := 33) (b := b) (i := i) (cap := p_s.length + n1) (k := p_s.length + 1 - i) (R := Qg) (ht rfl) (.next .here) (ht rfl) (by simp; omega) (by omega) (by omega) (by omega) (by kernel_rfl) (by kernel_rfl) (by kernel_rfl) rfl fun b3 e => ?_
   refine ja ?_
   refine Qd <| rs <| rt <| jm ?_
   refine jm ?_
   refine jq (YX (sz := 67) (ht rfl) (.yes (ht rfl) Qh) .no i (i + (p_s.length + 1 - i)) rfl rfl (by omega) (by omega) (by omega) (by kernel_rfl)) ?_
   refine jm ?_
   refine QbX (T := 33) (lo := i) (R := Qg) (N := 1) (xs := [y]) (ht rfl) .here (Qaj (b := b2) (T := 33) (zs := [y].map some ++ List.replicate n2 none) (lo := 0) (cap := 1 + n2) (Ku (ht rfl)) (.next (.next .here)) rfl) (by simp; omega) (by simp; omega) (by kernel_rfl) rfl ?_
   refine Qd <| rs <| rd (n := 8) (.m rfl <| .m rfl <| .m rfl <| .p (PJ.eqv (QW (ht rfl) (ht rfl)) w2) <| .p (YX (sz := 67) (ht rfl) (.yes (ht rfl) Qh) .no (i + 1) (i + (p_s.length + 1 - i)) rfl rfl (by omega) (by omega) (by omega) (by kernel_rfl)) <| .m rfl <| .m rfl <| .p (YX (sz := 67) (Ku (ht rfl)) (.yes (ht rfl) Qh) .no i p_s.length rfl rfl (by omega) (by omega) (by omega) (by kernel_rfl)) <| .nil) ?_
   refine QbX (T := 33) (lo := i + 1) (R := Qg) (N := p_s.length - i) (xs := p_s.drop i) (ht rfl) .here (Qaj (b := b) (lo := i) (cap := p_s.length + n1 - i) (ht rfl) (.next .here) (by rw [List.drop_append_of_le_length (by simp; omega)]; simp)) (by simp; omega) (by simp; omega) (by kernel_rfl) rfl ?_
   refine Qd <| rs <| rt <| jm ?_
   refine ja ?_
   refine Qd <| qI r e (i + (p_s.length + 1 - i)) (i + (p_s.length + 1 - i) + e) .here (by rw [hr]; exact QiH p_s y i e n1 hi) (by rw [hr]; simp; omega) (by rw [hr]; simp; omega) ?_
   exact Qo fun a w hst => QL hst rfl (.tmp rfl) (.slice (some ⟨b3, 0, none⟩) (i + (p_s.length + 1 - i)) (i + (p_s.length + 1 - i) + e)) (fun _ _ h => Uv.2 ⟨h, rfl⟩) .h1
  ·have e9 : ¬ p_s.length + n1 < p_s.length + 1 := by have := of_decide_eq_false e8; omega
   refine Qm <| rs <| rt <| jm ?_
   refine jm ?_
   refine jm ?_
   refine jq (PJ.eqv (QW (ht rfl) (ht rfl)) w1) ?_
   refine jq (YX (sz := 67) (Ku (ht rfl)) .no (.yes (ht rfl) Qh) 0 (p_s.length + 1) rfl rfl (by omega) (by omega) (by omega) (by kernel_rfl)) ?_
   refine ja ?_
   refine Qd <| rs <| rs <| rt <| jm ?_
   refine jm ?_
   refine jm ?_
   refine jm ?_
   refine jq (PJ.eqv (QW (ht rfl) (ht rfl)) w2) ?_
   refine jq (YX (sz := 67) (n := p_s.length + 1) (cap := p_s.length + n1) (ht rfl) (.yes (ht rfl) Qh) .no (i + 1) (p_s.length + 1) rfl rfl (by omega) (by omega) (by omega) (by kernel_rfl)) ?_
   refine jq (Qe3 (fn := Tryz.f106) (tS := 90) (tR := 4) (sz := 67) (T1 := 33) (T2 := 33) (R1 := Qg) (R2 := Qg) (z2 := p_s.map some ++ List.replicate n1 none) Tryz.func106 (by kernel_rfl) (by kernel_rfl) (by kernel_rfl) (by kernel_rfl) (by kernel_rfl) (Ku (ht rfl)) (ht rfl) .here .here (Nat.mul_pos (by simp; omega) (by decide))) ?_
   refine jq (ZI (ht rfl)) ?_
   refine Qd <| QfM (ht rfl) rfl ?_
   refine rs <| rd (n := 8) (.m rfl <| .m rfl <| .m rfl <| .p (PJ.eqv (QW (ht rfl) (ht rfl)) w2) <| .p (YX (sz := 67) (n := p_s.length + 1) (cap := p_s.length + n1) (ht rfl) (.yes (ht rfl) Qh) .no (i + 1) (p_s.length + 1) rfl rfl (by omega) (by omega) (by omega) (by kernel_rfl)) <| .m rfl <| .m rfl <| .p (YX (sz := 67) (n := p_s.length + 1) (cap := p_s.length + n1) (ht rfl) (.yes (ht rfl) Qh) .no i (p_s.length + 1) rfl rfl (by omega) (by omega) (by omega) (by kernel_rfl)) <| .nil) ?_
   refine QbX (T := 33) (lo := i + 1) (R := Qg) (N := p_s.length + 1 - i) (xs := p_s.drop i) (ht rfl) (.next .here) (Qaj (b := b) (lo := i) (cap := p_s.length + n1 - i) (ht rfl) (.next .here) (by rw [List.drop_append_of_le_length (by simp; omega)]; simp)) (by simp; omega) (by simp; omega) (by kernel_rfl) rfl ?_
   refine Qd <| rs <| rt <| jm ?_
   refine jm ?_
   refine jq (YX (sz := 67) (n := p_s.length + 1) (cap := p_s.length + n1) (ht rfl) (.yes (ht rfl) Qh) .no i (p_s.length + 1) rfl rfl (by omega) (by omega) (by omega) (by kernel_rfl)) ?_
   refine jm ?_
   refine QbX (T := 33) (lo := i) (R := Qg) (N := 1) (xs := [y]) (ht rfl) .here (Qaj (b := b2) (T := 33) (zs := [y].map some ++ List.replicate n2 none) (lo := 0) (cap := 1 + n2) (Ku (ht rfl)) (.next .here) rfl) (by simp; omega) (by simp; omega) (by kernel_rfl) rfl ?_
   refine Qd <| rs <| rt <| jm ?_
   refine ja ?_
   refine Qd <| qI r (n1 - 1) (p_s.length + 1) (p_s.length + n1) .here (by rw [hr]; exact QhC p_s y i n1 e6 (by omega)) (by rw [hr]; simp; omega) (by rw [hr]; simp; omega) ?_
   exact Qo fun a w hst => QL hst rfl (.tmp rfl) (.slice (some ⟨b, 0, none⟩) (p_s.length + 1) (p_s.length + n1)) (fun _ _ h => Uv.2 ⟨h, rfl⟩) .h1
theorem Wp {G : GP} (hg0 : HG0 G) (hg1 : HG1 G) (hg2 : HG2 G) {p_p : (List (BitVec 8)) × (List Qr) × (List Qw) × (List QB)} {p_s : Qr} {b_p : Nat} {v_p1 : Value} {v_p2 : Value} {v_p3 : Value} {r : ((List (BitVec 8)) × (List Qr) × (List Qw) × (List QB)) × Int} (h : Zt p_p p_s = some r) : Ctr Tryz.prog G 21 [val (.pointer (some ⟨b_p, 0, none⟩)), Qg.slot p_s] [box b_p 116 (prod (sl u8) (prod (exv v_p1) (prod (exv v_p2) (exv v_p3)))) (p_p.1, (), (), ()), own 33 Qg v_p1 p_p.2.1, own 123 Qj v_p2 p_p.2.2.1, own 130 Ql v_p3 p_p.2.2.2] (fun (i : Value × Value × Value) => i64.slot r.2) (fun (i : Value × Value × Value) => [box b_p 116 (prod (sl u8) (prod (exv i.1) (prod (exv i.2.1) (exv i.2.2)))) (r.1.1, (), (), ()), own 33 Qg i.1 r.1.2.1, own 123 Qj i.2.1 r.1.2.2.1, own 130 Ql i.2.2 r.1.2.2.2]) := by
 unfold Zt at h
 refine Qp Tryz.func21 rfl 88 rfl rfl fun m0 w0 b0 => ?_
 show Run _ _ _ [(0, val (.pointer (some ⟨b_p, 0, none⟩))), (1, Qg.slot p_s)] _
 refine rs <| rt <| jq (Q0 (ht rfl)) ?_
 refine jq (pa Qe) ?_
 refine Qd <| rs <| QJ <| rs <| rt <| jm ?_
 refine jq (Zl (E := 116) (by kernel_rfl) (ht rfl)) ?_
 refine ja ?_
 refine Qd <| Yi (ht rfl) rfl ?_
 refine rs <| rd (n := 5) (.p (plt (ht rfl)) <| .m rfl <| .p (Qv (ht rfl)) <| .p (pfp (off := 0) (ht rfl)) <| .p (plb (ht rfl) .here (.t .a .f)) <| .nil) (Je (Γ' := [(0, val (.pointer (some ⟨b_p, 0, none⟩))), (3, Qt Qg p_s), (11, Qg.slot p_s), (15, (sl u8).slot p_p.1)]) (H' := [box b_p 116 (prod (sl u8) (prod (exv v_p1) (prod (exv v_p2) (exv v_p3)))) (p_p.1, (), (), ()), own 33 Qg v_p1 p_p.2.1, own 123 Qj v_p2 p_p.2.2.1, own 130 Ql v_p3 p_p.2.2.2]) .k4 .h4 ?_)
 obtain ⟨r1, e2, h⟩ := bs h
 refine jq (pc tl2 (QdZ hg0 hg1 hg2 e2)) ?_
 refine jq (ZI (ht rfl)) ?_
 refine ja ?_
 refine Qd <| Qn (ht rfl) (fun e3 => ?_) (fun e3 => ?_)
 ·replace h := bt e3 h
  refine rs <| rt <| jq (pa Qe) ?_
  refine Qd ?_
  obtain rfl := oi h
  exact Qo fun a w hst => QL hst rfl (.tmp rfl) (v_p1, v_p2, v_p3) (fun _ _ h => h) .h4
 ·replace h := bf e3 h
  refine Qm <| Qs <| rs <| rt <| jm ?_
  refine jq (pft (ht rfl) .f) ?_
  refine jq (pft (ht rfl) .f) ?_
  refine jl ?_
  obtain ⟨r2, e4, h⟩ := bs h
  refine jq (Yo (Q1 (KN (ht rfl) .here (Zh (.next .here) (Jt (sl u8) p_p.1 (VE (prod (exv v_p2) (exv v_p3)) ((), ()) Xv)) <| Zh (.next (.next .here)) (Jt (sl u8) p_p.1 (Jt (sl Qg) p_p.2.1 (VE (exv v_p3) () Xv))) <| Zh (.next (.next (.next .here))) (Jt (sl u8) p_p.1 (Jt (sl Qg) p_p.2.1 (Jt (sl Qj) p_p.2.2.1 Xv))) <| KJ)) <| Q1 (Yr (ht rfl)) <| Zj) (by kernel_rfl) (Xb e4) (QcX (Uc (Rep.flat_slot QaO _) (Uc (Rep.flat_slot UU _) (Qa3))))) ?_
  refine jm ?_
  refine jx ?_
  refine jx ?_
  refine ja ?_
  refine ja ?_
  refine Qd <| rs <| QJ <| rs ?_
  obtain ⟨y1, e6, h⟩ := bs h
  refine (ql (n := 14) (Γ' := [(0, val (.pointer (some ⟨b_p, 0, none⟩))), (3, Qt Qg p_s), (5, i64.slot r2.1), (6, bl.slot r2.2), (40, bl.slot y1)]) (H' := [box b_p 116 (prod (sl u8) (prod (exv v_p1) (prod (exv v_p2) (exv v_p3)))) (p_p.1, (), (), ()), own 33 Qg v_p1 p_p.2.1, own 123 Qj v_p2 p_p.2.2.1, own 130 Ql v_p3 p_p.2.2.2]) ?_ fun J => ?_)
  ·clear e6
   refine ja ?_
   refine Qd <| Qn (ht rfl) (fun e8 => ?_) (fun e8 => ?_)
   ·replace h := bt e8 h
    refine rs <| rt <| jq (pa Qe) ?_
    refine Qd ?_
    obtain rfl := oi h
    exact Qo fun a w hst => QL hst rfl (.tmp rfl) (v_p1, v_p2, v_p3) (fun _ _ h => h) .h4
   ·replace h := bf e8 h
    refine rs <| rt <| jm ?_
    refine ja ?_
    refine Qd <| Qn (ht rfl) (fun e9 => ?_) (fun e9 => ?_)
    ·replace h := bt e9 h
     refine rs <| rs <| rt <| jm ?_
     refine jq (pft (ht rfl) .f) ?_
     refine jq (pft (ht rfl) .f) ?_
     refine jl ?_
     obtain ⟨r3, e10, h⟩ := bs h
     refine jq (Yo (Q1 (KN (ht rfl) .here (Zh (.next .here) (Jt (sl u8) p_p.1 (VE (prod (exv v_p2) (exv v_p3)) ((), ()) Xv)) <| Zh (.next (.next .here)) (Jt (sl u8) p_p.1 (Jt (sl Qg) p_p.2.1 (VE (exv v_p3) () Xv))) <| Zh (.next (.next (.next .here))) (Jt (sl u8) p_p.1 (Jt (sl Qg) p_p.2.1 (Jt (sl Qj) p_p.2.2.1 Xv))) <| KJ)) <| Q1 (Yr (ht rfl)) <| Zj) (by kernel_rfl) (BG e10) (Rep.flat_slot UU _)) ?_
     refine jq (ZI (ht rfl)) ?_
     refine Qd ?_
     obtain ⟨y2, e17, h⟩ := bs h
     refine KC (ι := Value) (Γ' := fun (v1 : Value) => []) (H' := fun (v1 : Value) => [box b_p 116 (prod (sl u8) (prod (exv v_p1) (prod (exv v1) (exv v_p3)))) (p_p.1, (), (), ()), own 123 Qj v1 y2, own 33 Qg v_p1 p_p.2.1, own 130 Ql v_p3 p_p.2.2.2]) ?_ fun J => ?_
     ·intro v1
      clear e17
      show Run _ _ _ [] [box b_p 116 (prod (sl u8) (prod (exv v_p1) (prod (exv v1) (exv v_p3)))) (p_p.1, (), (), ()), own 123 Qj v1 y2, own 33 Qg v_p1 p_p.2.1, own 130 Ql v_p3 p_p.2.2.2]
      refine rs <| rt <| jq (pa Qe) ?_
      refine Qd ?_
      obtain rfl := oi h
      exact Qo fun a w hst => QL hst rfl (.tmp rfl) (v_p1, v1, v_p3) (fun _ _ h => h) (.cons .here <| .cons (.next .here) <| .cons .here <| .cons .here <| .nil)
     ·refine Qn (ht rfl) (fun e11 => ?_) (fun e11 => ?_)
      ·replace h := bt e11 e17
       obtain ⟨x2, e12, h⟩ := bs h
       obtain ⟨r4, e13, h⟩ := bs h
       obtain ⟨r5, e14, h⟩ := bs h
       obtain ⟨x3, e15, h⟩ := bs h
       obtain ⟨e16, h⟩ := QS h
       refine Xn (H' := [own 123 Qj v_p2 p_p.2.2.1, box b_p 116 (prod (sl u8) (prod (exv v_p1) (prod (exv v_p2) (exv v_p3)))) (p_p.1, (), (), ()), own 33 Qg v_p1 p_p.2.1, own 130 Ql v_p3 p_p.2.2.2]) (.cons (.next (.next .here)) <| .cons .here <| .cons .here <| .cons .here <| .nil) ?_
       refine rdL (n := 18) (H := [box b_p 116 (prod (sl u8) (prod (exv v_p1) (prod (exv v_p2) (exv v_p3)))) (p_p.1, (), (), ()), own 33 Qg v_p1 p_p.2.1, own 130 Ql v_p3 p_p.2.2.2]) (Ls := [⟨[own 123 Qj v_p2 p_p.2.2.1], [(17, ⟨Value, fun (v2 : Value) => [own 123 Qj v2 (p_p.2.2.1 ++ ([x3]))], fun (v2 : Value) => [(66, ov v2)]⟩)]⟩]) (.m rfl <| .m rfl <| .p (Qv (ht rfl)) <| .p (pfp (off := 2) (ht rfl)) <| .p (plb (ht rfl) .here (.t .a (.t .s (.t .s .f)))) <| .m rfl <| .p (Qv (ht rfl)) <| .p (pfp (off := 1) (ht rfl)) <| .p (plb (ht rfl) .here (.t .a (.t .s .f))) <| .m rfl <| .p (J8 (ht rfl) (.next .here) (ht rfl) Qh (Q4 e12).1 (Q4 e12).2.1 (by kernel_rfl)) <| .p (PJ.eqv (YW Qg (r2.1.toNat) (ht rfl) (.next .here) (Q4 e12).2.1 (by kernel_rfl)) (Ul e12 (Q4 e12).2.1)) <| .p (pc tl1 (Xz e13)) <| .p (plt (ht rfl)) <| .p (pc tl1 (Xz e14)) <| .p (PJ.eqv (JZ (R := Qj) (Qk (Qk (Qk Qx (Qk Qx (Qk (QA 32 QH) (QA 32 QH)))) Jp) (Qk (Qk Qx (Qk Qx (Qk (QA 32 QH) (QA 32 QH)))) Jp)) (by kernel_rfl) (by kernel_rfl) rfl (.cons (ht rfl) .f (by kernel_rfl) (.cons (ht rfl) .s (by kernel_rfl) .nil))) (oi e15)) <| .p (QT (T := 123) (R := Qj) (.cons (ht rfl) .nil) rfl (by kernel_rfl) (by kernel_rfl)) <| .step 0 rfl .here (.inl rfl) (fun i => ⟨_, _, fun j => j, (Qc7 (T := 123) (E := 123) (ht rfl) .here (JE (ht rfl)) (by kernel_rfl) (by kernel_rfl) e16 rfl), fun _ => rfl, VJ, Bh⟩) <| .nil) ?_
       rintro v2
       refine Je (Γ' := [(49, val (.pointer (some ⟨b_p, 0, none⟩))), (66, ov v2)]) (H' := [own 123 Qj v2 (p_p.2.2.1 ++ ([x3])), box b_p 116 (prod (sl u8) (prod (exv v_p1) (prod (exv v_p2) (exv v_p3)))) (p_p.1, (), (), ()), own 33 Qg v_p1 p_p.2.1, own 130 Ql v_p3 p_p.2.2.2]) .k2 .h4 ?_
       refine jq (Qv (ht rfl)) ?_
       refine jq (pfp (off := 2) (ht rfl)) ?_
       refine U4 (p_p.1, (), (), ()) (ht rfl) (ht rfl) (.next .here) (KV (sl u8) p_p.1 (KV (exv v_p1) () (Qit (exv v_p3) () qa))) (by kernel_rfl) ?_
       refine Qd ?_
       obtain rfl := oi h
       exact Q9 (.nil) .h4 (J v2)
      ·replace h := bf e11 e17
       refine Qm ?_
       obtain rfl := oi h
       exact Q9 (.nil) (.cons .here <| .cons (.next .here) <| .cons .here <| .cons .here <| .nil) (J v_p2)
    ·replace h := bf e9 h
     refine rs <| rt <| jm ?_
     refine jq (Qv (ht rfl)) ?_
     refine jq (pfp (off := 1) (ht rfl)) ?_
     refine jq (plb (ht rfl) .here (.t .a (.t .s .f))) ?_
     refine jq (YP (sz := 67) (ht rfl) (.next .here) (by kernel_rfl)) ?_
     refine jq (XF (ht rfl) Qe) ?_
     obtain ⟨x4, e18, h⟩ := bs h
     refine jq (PJ.eqv (pa (ht rfl)) (oi e18)) ?_
     refine Qd <| Qn (ht rfl) (fun e19 => ?_) (fun e19 => ?_)
     ·replace h := bt e19 h
      refine rs <| rt <| jq (pa Qe) ?_
      refine Qd ?_
      obtain rfl := oi h
      exact Qo fun a w hst => QL hst rfl (.tmp rfl) (v_p1, v_p2, v_p3) (fun _ _ h => h) .h4
     ·replace h := bf e19 h
      refine Qm <| Qs <| rs ?_
      obtain ⟨r6, e20, h⟩ := bs h
      obtain ⟨r7, e21, h⟩ := bs h
      refine Xn (H' := [own 33 Qg v_p1 p_p.2.1, box b_p 116 (prod (sl u8) (prod (exv v_p1) (prod (exv v_p2) (exv v_p3)))) (p_p.1, (), (), ()), own 123 Qj v_p2 p_p.2.2.1, own 130 Ql v_p3 p_p.2.2.2]) (.cons (.next .here) <| .cons .here <| .cons .here <| .cons .here <| .nil) ?_
      refine rdL (n := 10) (H := [box b_p 116 (prod (sl u8) (prod (exv v_p1) (prod (exv v_p2) (exv v_p3)))) (p_p.1, (), (), ()), own 123 Qj v_p2 p_p.2.2.1, own 130 Ql v_p3 p_p.2.2.2]) (Ls := [⟨[own 33 Qg v_p1 p_p.2.1], [(8, ⟨Value, fun (v3 : Value) => [own 33 Qg v3 ([r6]), own 33 Qg v_p1 p_p.2.1], fun (v3 : Value) => [(84, ov v3)]⟩), (9, ⟨Value × Value, fun (i : Value × Value) => [own 33 Qg i.2 r7], fun (i : Value × Value) => [(85, ov i.2), (84, ov i.1)]⟩)]⟩]) (.m rfl <| .m rfl <| .p (Qv (ht rfl)) <| .p (pfp (off := 1) (ht rfl)) <| .p (plb (ht rfl) .here (.t .a (.t .s .f))) <| .m rfl <| .p (plt (ht rfl)) <| .p (pc tl1 (Xz e20)) <| .step 0 rfl .here (.inl rfl) (fun i => ⟨_, _, fun j => j, (Qeu (T := 33) (R := Qg) (.cons (ht rfl) .nil) rfl (by kernel_rfl) (by kernel_rfl) rfl), fun _ => rfl, VJ, Bh⟩) <| .step 0 rfl (.next .here) (.inl rfl) (fun i => ⟨_, _, fun j => (i, j), (wc tl3 (VL e21) (.cons (.next .here) <| .cons .here <| .nil)), fun _ => rfl, VJ, Bh⟩) <| .nil) ?_
      rintro ⟨v3, v4⟩
      refine Je (Γ' := [(76, val (.pointer (some ⟨b_p, 0, none⟩))), (85, ov v4)]) (H' := [own 33 Qg v4 r7, box b_p 116 (prod (sl u8) (prod (exv v_p1) (prod (exv v_p2) (exv v_p3)))) (p_p.1, (), (), ()), own 123 Qj v_p2 p_p.2.2.1, own 130 Ql v_p3 p_p.2.2.2]) .k2 .h4 ?_
      refine jq (Qv (ht rfl)) ?_
      refine jq (pfp (off := 1) (ht rfl)) ?_
      refine U4 (p_p.1, (), (), ()) (ht rfl) (ht rfl) (.next .here) (KV (sl u8) p_p.1 (Qit (prod (exv v_p2) (exv v_p3)) ((), ()) qa)) (by kernel_rfl) ?_
      refine Qd <| rs <| rt <| jq (pa Qe) ?_
      refine Qd ?_
      obtain rfl := oi h
      exact Qo fun a w hst => QL hst rfl (.tmp rfl) (v4, v_p2, v_p3) (fun _ _ h => h) .h4
  ·rcases Jl (r2.2) with e5 | e5
   ·replace e6 := bt e5 e6
    obtain ⟨x1, e7, e6⟩ := bind_some e6
    exact rd (n := 14) (.m rfl <| .m rfl <| .read (.yes (gY e5) (pm (ht rfl))) <| .read (.yes (gY e5) (Qv (ht rfl))) <| .read (.yes (gY e5) (pfp (off := 1) (ht rfl))) <| .read (.yes (gY e5) (plb (ht rfl) .here (.t .a (.t .s .f)))) <| .read (.yes (gY e5) (pm (ht rfl))) <| .read (.yes (gY e5) (J8 (ht rfl) (.next .here) (ht rfl) Qh (Q4 e7).1 (Q4 e7).2.1 (by kernel_rfl))) <| .read (.yes (gY e5) (WI (off := 0) (ht rfl) (by kernel_rfl))) <| .read (.yes (gY e5) (W4 Qg r2.1 (ht rfl) (.next .here) e7 (.t .a .f) (by kernel_rfl) rfl)) <| .read (.yes (gY e5) (pft (ht rfl) .f)) <| .read (.yes (gY e5) (plt (ht rfl))) <| .read (.yes (gY e5) (Qgz (n := 3) (QdD (fs := #[Field.mk "Epoch" 3 0 false "" "" 0, Field.mk "Tick" 3 1 false "" "" 8, Field.mk "Tree" 23 2 false "" "" 16, Field.mk "Log" 23 34 false "" "" 48]) (by kernel_rfl) (by kernel_rfl) rfl (.cons rfl (by kernel_rfl) (by kernel_rfl) (Qa0.mono (by omega) (QdM (by kernel_rfl))) (.cons rfl (by kernel_rfl) (by kernel_rfl) (Qa0.mono (by omega) (QdM (by kernel_rfl))) (.cons rfl (by kernel_rfl) (by kernel_rfl) (QfX (e := 5) (by kernel_rfl) (by kernel_rfl) (QiC (by kernel_rfl))) (.one rfl (by kernel_rfl) (by kernel_rfl) (QfX (e := 5) (by kernel_rfl) (by kernel_rfl) (QiC (by kernel_rfl)))))))) (by decide) rfl (by kernel_rfl) (ht rfl) (ht rfl))) <| .p (pk1 e5 (ht rfl) (oi e6)) <| .nil) (Je (Γ' := [(0, val (.pointer (some ⟨b_p, 0, none⟩))), (3, Qt Qg p_s), (5, i64.slot r2.1), (6, bl.slot r2.2), (40, bl.slot y1)]) (H' := [box b_p 116 (prod (sl u8) (prod (exv v_p1) (prod (exv v_p2) (exv v_p3)))) (p_p.1, (), (), ()), own 33 Qg v_p1 p_p.2.1, own 123 Qj v_p2 p_p.2.2.1, own 130 Ql v_p3 p_p.2.2.2]) .k5 .h4 J)
   ·replace e6 := bf e5 e6
    exact rd (n := 14) (.m rfl <| .m rfl <| .read (.no (gN e5)) <| .read (.no (gN e5)) <| .read (.no (gN e5)) <| .read (.no (gN e5)) <| .read (.no (gN e5)) <| .read (.no (gN e5)) <| .read (.no (gN e5)) <| .read (.no (gN e5)) <| .read (.no (gN e5)) <| .read (.no (gN e5)) <| .read (.no (gN e5)) <| .p (pk2 e5 QU (oi e6)) <| .nil) (Je (Γ' := [(0, val (.pointer (some ⟨b_p, 0, none⟩))), (3, Qt Qg p_s), (5, i64.slot r2.1), (6, bl.slot r2.2), (40, bl.slot y1)]) (H' := [box b_p 116 (prod (sl u8) (prod (exv v_p1) (prod (exv v_p2) (exv v_p3)))) (p_p.1, (), (), ()), own 33 Qg v_p1 p_p.2.1, own 123 Qj v_p2 p_p.2.2.1, own 130 Ql v_p3 p_p.2.2.2]) .k5 .h4 J)
theorem UC {G : GP} {p_t : Option Qy} {r : Int} (h : XU p_t = some r) : Ctr Tryz.prog G 131 [(ptr QI).slot p_t] [] (fun (_ : Unit) => i64.slot r) (fun (_ : Unit) => []) := by
 unfold XU at h
 refine Qp Tryz.func131 rfl 10 rfl rfl fun m0 w0 b0 => ?_
 show Run _ _ _ [(0, (ptr QI).slot p_t)] _
 refine rs <| rt <| jq (pa Qe) ?_
 refine Qd <| rs <| rs <| rt <| jm ?_
 refine jq (WX (E := 153) (by kernel_rfl) (ht rfl)) ?_
 refine Qd <| Qn (ht rfl) (fun e1 => ?_) (fun e1 => ?_)
 ·replace h := bt e1 h
  refine rs <| rt <| jq (pa Qe) ?_
  refine Qd ?_
  obtain rfl := oi h
  exact Qo fun a w hst => QL hst rfl (.tmp rfl) () (fun _ _ h => h) (.nil)
 ·replace h := bf e1 h
  refine Qm <| rs <| rt <| jm ?_
  obtain ⟨x1, e2, h⟩ := bs h
  refine jq (JC (ht rfl) e2) ?_
  refine jq (pft (ht rfl) .f) ?_
  refine jl ?_
  obtain ⟨e3, h⟩ := QS h
  refine jq (KR Qe (ht rfl) Qh e3) ?_
  refine ja ?_
  refine Qd ?_
  obtain rfl := oi h
  exact Qo fun a w hst => QL hst rfl (.tmp rfl) () (fun _ _ h => h) (.nil)
theorem QaL {G : GP} {p_s : Int × Int × Qa × (Option Qy) × (Option Qy) × Int} {b_s : Nat} {c_s : List Value} {r : Int} (h : Vv p_s = some r) : Ctr Tryz.prog G 87 [val (.pointer (some ⟨b_s, 0, none⟩))] [box b_s 102 (exr (prod i64 (prod i64 (prod Qb (prod (ptr QI) (prod (ptr QI) i64))))) c_s) (p_s.1, p_s.2.1, p_s.2.2.1, p_s.2.2.2.1, p_s.2.2.2.2.1, p_s.2.2.2.2.2)] (fun (_ : Unit) => i64.slot r) (fun (_ : Unit) => [box b_s 102 (exr (prod i64 (prod i64 (prod Qb (prod (ptr QI) (prod (ptr QI) i64))))) c_s) (p_s.1, p_s.2.1, p_s.2.2.1, p_s.2.2.2.1, p_s.2.2.2.2.1, p_s.2.2.2.2.2)]) := by
 unfold Vv at h
 refine Qp Tryz.func87 rfl 15 rfl rfl fun m0 w0 b0 => ?_
 show Run _ _ _ [(0, val (.pointer (some ⟨b_s, 0, none⟩)))] _
 refine rs <| rt <| jq (PJ.xw (.ex .refl) (pa Qe)) ?_
 refine Qd <| rs <| rs <| rt <| jq (PJ.xw (.ex .refl) (pm (ht rfl))) ?_
 refine jq (PJ.xw (.ex .refl) (Zl (E := 102) (by kernel_rfl) (ht rfl))) ?_
 refine Qd <| Yi (ht rfl) rfl ?_
 refine Qm <| rs ?_
 obtain ⟨r1, e2, h⟩ := bs h
 refine rd (n := 9) (.p (PJ.xw (.ex .refl) (pm (ht rfl))) <| .p (PJ.xw (.ex .refl) (Qv (ht rfl))) <| .p (PJ.xw (.ex .refl) (pfp (off := 34) (ht rfl))) <| .p (PJ.xw (.ex .refl) (plb (ht rfl) .here (.t .a (.t .s (.t .s (.t .s .f)))))) <| .p (PJ.xw (.ex .refl) (pc tl1 (UC e2))) <| .p (PJ.xw (.ex .refl) (pm (ht rfl))) <| .p (PJ.xw (.ex .refl) (Qv (ht rfl))) <| .p (PJ.xw (.ex .refl) (pfp (off := 0) (ht rfl))) <| .p (PJ.xw (.ex .refl) (plb (ht rfl) .here (.t .a .f))) <| .nil) (Je (Γ' := [(9, i64.slot r1), (13, i64.slot p_s.1)]) (H' := [box b_s 102 (exr (prod i64 (prod i64 (prod Qb (prod (ptr QI) (prod (ptr QI) i64))))) c_s) (p_s.1, p_s.2.1, p_s.2.2.1, p_s.2.2.2.1, p_s.2.2.2.2.1, p_s.2.2.2.2.2)]) .k2 .h1 ?_)
 obtain ⟨e3, h⟩ := QS h
 refine jq (PJ.xw (.ex .refl) (KR (ht rfl) (ht rfl) Qh e3)) ?_
 refine jq (PJ.xw (.ex .refl) (pa (ht rfl))) ?_
 refine Qd ?_
 obtain rfl := oi h
 exact Qo fun a w hst => QL hst rfl (.tmp rfl) () (fun _ _ h => h) .h1
theorem Qap {G : GP} (hg0 : HG0 G) (hg1 : HG1 G) (hg2 : HG2 G) {p_s : Int × Int × Qa × (Option Qy) × (Option Qy) × Int} {p_i : Int} {b_s : Nat} {r : (Int × Int × Qa × (Option Qy) × (Option Qy) × Int) × (Option Qy) × Int} (h : Vu p_s p_i = some r) : Ctr Tryz.prog G 88 [val (.pointer (some ⟨b_s, 0, none⟩)), i64.slot p_i] [box b_s 102 (prod i64 (prod i64 (prod Qb (prod (ptr QI) (prod (ptr QI) i64))))) (p_s.1, p_s.2.1, p_s.2.2.1, p_s.2.2.2.1, p_s.2.2.2.2.1, p_s.2.2.2.2.2)] (fun (_ : Unit) => tup [(ptr QI).slot r.2.1, i64.slot r.2.2]) (fun (_ : Unit) => [box b_s 102 (prod i64 (prod i64 (prod Qb (prod (ptr QI) (prod (ptr QI) i64))))) (r.1.1, r.1.2.1, r.1.2.2.1, r.1.2.2.2.1, r.1.2.2.2.2.1, r.1.2.2.2.2.2)]) := by
 unfold Vu at h
 refine Qp Tryz.func88 rfl 66 rfl rfl fun m0 w0 b0 => ?_
 show Run _ _ _ [(0, val (.pointer (some ⟨b_s, 0, none⟩))), (1, i64.slot p_i)] _
 refine rs <| rt <| jq (pa (Uw (R := QI))) ?_
 refine jq (pa Qe) ?_
 refine Qd <| rs <| rs <| rt <| jm ?_
 refine jq (Qv (ht rfl)) ?_
 refine jq (pfp (off := 36) (ht rfl)) ?_
 refine jq (plb (ht rfl) .here (.t .a (.t .s (.t .s (.t .s (.t .s .s)))))) ?_
 refine jm ?_
 refine jq (ZJ (ht rfl) (ht rfl)) ?_
 refine Qd <| Qn (ht rfl) (fun e1 => ?_) (fun e1 => ?_)
 ·replace h := bt e1 h
  refine rs <| rt <| jm ?_
  refine jq (Qv (ht rfl)) ?_
  refine jq (pfp (off := 35) (ht rfl)) ?_
  refine jq (plb (ht rfl) .here (.t .a (.t .s (.t .s (.t .s (.t .s .f)))))) ?_
  refine ja ?_
  refine jq (pa Qe) ?_
  refine Qd ?_
  obtain rfl := oi h
  exact Qo fun a w hst => JV hst rfl (.cons (.tmp rfl) <| .cons (.tmp rfl) <| .nil) rfl () (fun _ _ h => h) .h1
 ·replace h := bf e1 h
  refine Qm <| rs <| rt <| jm ?_
  refine jq (Qv (ht rfl)) ?_
  refine jq (pfp (off := 2) (ht rfl)) ?_
  refine jq (plb (ht rfl) .here (.t .a (.t .s (.t .s .f)))) ?_
  refine jm ?_
  refine jq (Ba (ht rfl) (QE (x := 24#64) rfl) JY (Int.natCast_nonneg _)) ?_
  refine jq (Jo (k := .u8) (b := 8) rfl rfl (by kernel_rfl) (ht rfl) Qh) ?_
  refine jm ?_
  refine jq (Ba (ht rfl) (QE (x := 16#64) rfl) JY (Int.natCast_nonneg _)) ?_
  refine jq (Jo (k := .u8) (b := 8) rfl rfl (by kernel_rfl) (ht rfl) Qh) ?_
  refine jm ?_
  refine jq (Ba (ht rfl) (QE (x := 8#64) rfl) JY (Int.natCast_nonneg _)) ?_
  refine jq (Jo (k := .u8) (b := 8) rfl rfl (by kernel_rfl) (ht rfl) Qh) ?_
  refine jm ?_
  refine jq (Jo (k := .u8) (b := 8) rfl rfl (by kernel_rfl) (ht rfl) Qh) ?_
  refine jq (QT (T := 5) (R := u8) (.cons (ht rfl) (.cons (ht rfl) (.cons (ht rfl) (.cons (ht rfl) .nil)))) rfl (by kernel_rfl) (by kernel_rfl)) ?_
  obtain ⟨r1, e2, h⟩ := bs h
  refine jq (pc tl2 (Qbz hg1 hg2 e2)) ?_
  refine jm ?_
  refine jx ?_
  refine jx ?_
  refine al (x := (Vector.replicate 16 (0#8))) (R := QG) (QA 16 QH) fun b1 => ?_
  refine al (x := (Vector.replicate 32 (0#8))) (R := Qb) (QA 32 QH) fun b2 => ?_
  refine jk (r' := r1.1) (ht rfl) (ht rfl) (.next .here) .a ?_
  refine Jd (t := 6) .here (.of_lk rfl) ?_
  refine jk (r' := r1.2) (ht rfl) (ht rfl) .here .a ?_
  refine Jd (t := 7) .here (.of_lk rfl) ?_
  refine Qd <| rs ?_
  obtain ⟨r2, e3, h⟩ := bs h
  refine rd (n := 15) (.m rfl <| .p (Qv (ht rfl)) <| .p (pfp (off := 0) (ht rfl)) <| .p (plb (ht rfl) .here (.t .a .f)) <| .m rfl <| .p (Qv (ht rfl)) <| .p (pfp (off := 1) (ht rfl)) <| .p (plb (ht rfl) .here (.t .a (.t .s .f))) <| .p (plt (ht rfl)) <| .p (plt (ht rfl)) <| .p (pc tl4 (Qdt hg0 hg1 hg2 e3)) <| .m rfl <| .p (Wc (ht rfl) rfl) <| .p (Wc (ht rfl) rfl) <| .p (pa (ht rfl)) <| .nil) (Je (Γ' := [(0, val (.pointer (some ⟨b_s, 0, none⟩))), (1, i64.slot p_i), (8, (ptr QI).slot r2.1), (53, i64.slot r2.2)]) (H' := [box b_s 102 (prod i64 (prod i64 (prod Qb (prod (ptr QI) (prod (ptr QI) i64))))) (p_s.1, p_s.2.1, p_s.2.2.1, p_s.2.2.2.1, p_s.2.2.2.2.1, p_s.2.2.2.2.2)]) .k4 .h1 ?_)
  refine ja ?_
  refine Qd <| rs <| rs <| rt <| jm ?_
  refine jq (YG (ht rfl) Qe) ?_
  refine Qd <| Qn (ht rfl) (fun e4 => ?_) (fun e4 => ?_)
  ·replace h := bt e4 h
   refine rs <| rt <| jm ?_
   refine jq (pa (Uw (R := QI))) ?_
   refine ja ?_
   refine Qd ?_
   obtain rfl := oi h
   exact Qo fun a w hst => JV hst rfl (.cons (.tmp rfl) <| .cons (.tmp rfl) <| .nil) rfl () (fun _ _ h => h) .h1
  ·replace h := bf e4 h
   refine Qm <| rs <| rt <| jm ?_
   refine jm ?_
   refine jm ?_
   refine jm ?_
   refine jq (Qv (ht rfl)) ?_
   refine jq (pfp (off := 35) (ht rfl)) ?_
   refine jk (r' := (p_s.1, p_s.2.1, p_s.2.2.1, p_s.2.2.2.1, r2.1, p_s.2.2.2.2.2)) (ht rfl) (ht rfl) .here (.t .a (.t .s (.t .s (.t .s (.t .s .f))))) ?_
   refine jq (Qv (ht rfl)) ?_
   refine jq (pfp (off := 36) (ht rfl)) ?_
   refine jk (r' := (p_s.1, p_s.2.1, p_s.2.2.1, p_s.2.2.2.1, r2.1, p_i)) (ht rfl) (ht rfl) .here (.t .a (.t .s (.t .s (.t .s (.t .s .s))))) ?_
   refine Qd <| rs <| rt <| jm ?_
   refine ja ?_
   refine jq (pa Qe) ?_
   refine Qd ?_
   obtain rfl := oi h
   exact Qo fun a w hst => JV hst rfl (.cons (.tmp rfl) <| .cons (.tmp rfl) <| .nil) rfl () (fun _ _ h => h) .h1
theorem Qep {G : GP} (hg0 : HG0 G) (hg1 : HG1 G) (hg2 : HG2 G) {p_kind : Int} {p_id : QO} {p_q : BitVec 32} {p_seed : Qa} {p_message : List (BitVec 8)} {r : (List (BitVec 8)) × Int} (h : Wl p_kind p_id p_q p_seed p_message = some r) : Ctr Tryz.prog G 132 [i64.slot p_kind, QG.slot p_id, u32.slot p_q, Qb.slot p_seed, (sl u8).slot p_message] [] (fun (u0 : Value) => tup [ov u0, i64.slot r.2]) (fun (u0 : Value) => [own 5 u8 u0 r.1]) := by
 unfold Wl at h
 refine Qp Tryz.func132 rfl 71 rfl rfl fun m0 w0 b0 => ?_
 show Run _ _ _ [(0, i64.slot p_kind), (1, QG.slot p_id), (2, u32.slot p_q), (3, Qb.slot p_seed), (4, (sl u8).slot p_message)] _
 refine rs <| rt <| jq (Q0 (ht rfl)) ?_
 refine jq (Q0 (ht rfl)) ?_
 refine QN (T := 5) u8 rfl fun v1 => ?_
 refine jq (pa Qe) ?_
 refine Qd <| rs <| rt <| jm ?_
 obtain ⟨r1, e1, h⟩ := bs h
 refine jq (pc tl1 (Wk hg0 e1)) ?_
 refine jm ?_
 refine jx ?_
 refine jx ?_
 refine al (x := (0, 0, 0)) (R := QC) (Qk Qx (Qk Qx Qx)) fun b1 => ?_
 refine jk (r' := r1.1) (ht rfl) (ht rfl) .here .a ?_
 refine Jd (t := 12) .here (.of_lk rfl) ?_
 refine ja ?_
 refine Qd <| rs <| rs <| rt <| jm ?_
 refine jq (ZI (ht rfl)) ?_
 refine Qd <| Qn (ht rfl) (fun e2 => ?_) (fun e2 => ?_)
 ·replace h := bt e2 h
  refine rs <| rt <| QN (T := 5) u8 rfl fun v2 => ?_
  refine jq (pa Qe) ?_
  refine Qd ?_
  obtain rfl := oi h
  exact Qo fun a w hst => JV hst rfl (.cons (.tmp rfl) <| .cons (.tmp rfl) <| .nil) rfl v2 (fun _ _ h => h) .h1
 ·replace h := bf e2 h
  refine Qm <| rs <| rt <| jl ?_
  refine jm ?_
  refine jl ?_
  obtain ⟨r2, e3, h⟩ := bs h
  refine jq (pc (hc (ht rfl) <| hc (ht rfl) <| hc Qe <| hc (ht rfl) <| Q3) (U6 hg1 hg2 e3)) ?_
  refine al (x := (Vector.replicate 32 (0#8))) (R := Qb) (QA 32 QH) fun b2 => ?_
  refine jk (r' := r2) (ht rfl) (ht rfl) .here .a ?_
  refine Jd (t := 14) .here (.of_lk rfl) ?_
  refine Qd <| rs <| rt <| jq (JZ (R := prod (exv (.slice none 0 0)) bl) (Qk X4 Bf) (by kernel_rfl) (by kernel_rfl) rfl .nil) ?_
  refine QaH (T1 := 5) u8 (ht rfl) rfl fun b3 v3 => ?_
  refine ja ?_
  refine Qd <| rs <| rt <| jm ?_
  refine jm ?_
  refine jq (Jo (k := .u32) (b := 32) rfl rfl (by kernel_rfl) (ht rfl) Qh) ?_
  obtain ⟨r3, e4, h⟩ := bs h
  refine jc tl2 (Z4 e4) (.cons (.next .here) <| .cons .here <| .nil) fun v4 => ?_
  refine Qd <| rs <| rt <| jm ?_
  refine jq (JA (ht rfl) (by decide) (by kernel_rfl)) ?_
  obtain ⟨r4, e5, h⟩ := bs h
  refine jc tl2 (J2 e5) .h2 fun v5 => ?_
  refine Qd <| rs <| rs ?_
  obtain ⟨r5, e6, h⟩ := bs h
  obtain ⟨r6, e7, h⟩ := bs h
  refine rd (n := 10) (.p (plt (ht rfl)) <| .p (plt (ht rfl)) <| .m rfl <| .p (JA (ht rfl) (by decide) (by kernel_rfl)) <| .m rfl <| .p (QT (T := 31) (R := (sl u8)) (.cons (ht rfl) (.cons (ht rfl) .nil)) rfl (by kernel_rfl) (by kernel_rfl)) <| .p (pc (hc (ht rfl) <| hc (ht rfl) <| hc Qe <| hc (ht rfl) <| Q3) (Kh hg1 hg2 e6)) <| .p (pc tl2 (Ctr.froze (UK e7))) <| .p (QX (sz := 1) (ht rfl) (by kernel_rfl)) <| .p (pm Qe) <| .nil) (Je (Γ' := [(2, u32.slot p_q), (6, Qt QG p_id), (8, Qt Qb p_seed), (15, val (.pointer (some ⟨b3, 0, none⟩))), (46, (sl i64).slot r6), (47, i64.slot (r6.length : Int)), (48, i64.slot (0 : Int))]) (H' := [box b3 161 (prod (exv v5) bl) ((), r4.2), own 5 u8 v5 r4.1]) .k7 .h2 ?_)
  refine Qd ?_
  obtain ⟨⟨y4, y5, y6⟩, e13, h⟩ := bs h
  refine Q2 (Γi := fun (i : Value) (s : Int × Bool × (List (BitVec 8))) => [(2, u32.slot p_q), (6, Qt QG p_id), (8, Qt Qb p_seed), (15, val (.pointer (some ⟨b3, 0, none⟩))), (46, (sl i64).slot r6), (47, i64.slot (r6.length : Int)), (48, i64.slot s.1)]) (Hi := fun (i : Value) (s : Int × Bool × (List (BitVec 8))) => [box b3 161 (prod (exv i) bl) ((), s.2.1), own 5 u8 i s.2.2]) e13 v5 (fun a w hst => (hst.sub .k7).keep .h2) ?_ ?_
  ·clear h e13
   rintro v6 ⟨y1, y2, y3⟩ lr h
   change XX r6 p_id p_q p_seed y1 y2 y3 = some _ at h
   show Run _ _ _ [(2, u32.slot p_q), (6, Qt QG p_id), (8, Qt Qb p_seed), (15, val (.pointer (some ⟨b3, 0, none⟩))), (46, (sl i64).slot r6), (47, i64.slot (r6.length : Int)), (48, i64.slot y1)] [box b3 161 (prod (exv v6) bl) ((), y2), own 5 u8 v6 y3]
   unfold XX at h
   refine rs <| rt <| jq (Q7 (ht rfl) (ht rfl)) ?_
   refine Qd <| rs <| Qn (ht rfl) (fun e8 => ?_) (fun e8 => ?_)
   ·replace h := bt e8 h
    refine Qm <| rs <| QJ <| rs <| rt <| jm ?_
    obtain ⟨x1, e9, h⟩ := bs h
    refine jq (pix (ht rfl) (ht rfl) Qh e9) ?_
    refine jl ?_
    refine ja ?_
    refine ja ?_
    refine Qd <| rs ?_
    obtain ⟨r7, e10, h⟩ := bs h
    obtain ⟨r8, e11, h⟩ := bs h
    refine Xn (H' := [box b3 161 (prod (exv v6) bl) ((), y2), own 5 u8 v6 y3]) .h2 ?_
    refine rdL (n := 11) (H := [box b3 161 (prod (exv v6) bl) ((), y2), own 5 u8 v6 y3]) (Ls := [⟨[], [(10, ⟨Nat, fun (b4 : Nat) => [box b4 23 Qb (Vector.replicate 32 (0#8))], fun (b4 : Nat) => [(18, val (.pointer (some ⟨b4, 0, none⟩)))]⟩)]⟩]) (.p (plt (ht rfl)) <| .m rfl <| .m rfl <| .p (plt (ht rfl)) <| .m rfl <| .m rfl <| .p (plt (ht rfl)) <| .p (pc tl4 (U6 hg1 hg2 e10)) <| .m rfl <| .p (pc (hc (ht rfl) <| hc (ht rfl) <| hc (ht rfl) <| hc (ht rfl) <| hc Qe <| hc (ht rfl) <| Q3) (WG hg1 hg2 e11)) <| .step 0 rfl .here (.inl rfl) (fun i => ⟨_, _, fun j => j, (qj (x := (Vector.replicate 32 (0#8))) (R := Qb) (QA 32 QH) (by kernel_rfl) rfl), fun _ => rfl, VJ, Bh⟩) <| .nil) ?_
    rintro b4
    refine Je (Γ' := [(2, u32.slot p_q), (6, Qt QG p_id), (8, Qt Qb p_seed), (15, val (.pointer (some ⟨b3, 0, none⟩))), (18, val (.pointer (some ⟨b4, 0, none⟩))), (46, (sl i64).slot r6), (47, i64.slot (r6.length : Int)), (48, i64.slot y1), (62, Qb.slot r8)]) (H' := [box b4 23 Qb (Vector.replicate 32 (0#8)), box b3 161 (prod (exv v6) bl) ((), y2), own 5 u8 v6 y3]) .k9 .h3 ?_
    refine jk (r' := r8) (ht rfl) (ht rfl) .here .a ?_
    refine Jd (t := 18) .here (.of_lk rfl) ?_
    refine Qd <| rt <| jm ?_
    refine jq (JA (ht rfl) (by decide) (by kernel_rfl)) ?_
    obtain ⟨r9, e12, h⟩ := bs h
    refine jc tl2 (J2 e12) .h2 fun v7 => ?_
    refine Qd <| Qs <| rt <| jq (QW (ht rfl) Qe) ?_
    refine jm ?_
    refine Qd ?_
    obtain rfl := oi h
    exact QZ v7 .k7 .h2
   ·replace h := bf e8 h
    obtain rfl := oi h
    exact Jf v6 .k7 .h2
  ·rintro v8
   show Run _ _ _ [(2, u32.slot p_q), (6, Qt QG p_id), (8, Qt Qb p_seed), (15, val (.pointer (some ⟨b3, 0, none⟩))), (46, (sl i64).slot r6), (47, i64.slot (r6.length : Int)), (48, i64.slot y4)] [box b3 161 (prod (exv v8) bl) ((), y5), own 5 u8 v8 y6]
   refine Q9 (Γ' := [(15, val (.pointer (some ⟨b3, 0, none⟩)))]) (H' := [box b3 161 (prod (exv v8) bl) ((), y5), own 5 u8 v8 y6]) .k1 .h2 ?_
   refine rs <| rt <| jm ?_
   obtain ⟨r10, e14, h⟩ := bs h
   refine jc tl1 (XO e14) .h2 fun ⟨v9, v10⟩ => ?_
   refine jx ?_
   refine jx ?_
   refine ja ?_
   refine ja ?_
   refine Qd ?_
   obtain rfl := oi h
   exact Qo fun a w hst => JV hst rfl (.cons (.tmp rfl) <| .cons (.tmp rfl) <| .nil) rfl v10 (fun _ _ h => h) (.cons (.next (.next .here)) <| .nil)
theorem Bs {G : GP} (hg0 : HG0 G) (hg1 : HG1 G) (hg2 : HG2 G) {p_t : Option Qy} {p_q : Int} {p_message : List (BitVec 8)} {r : (List (BitVec 8)) × Int} (h : VC p_t p_q p_message = some r) : Ctr Tryz.prog G 89 [(ptr QI).slot p_t, i64.slot p_q, (sl u8).slot p_message] [] (fun (u0 : Value) => tup [ov u0, i64.slot r.2]) (fun (u0 : Value) => [own 5 u8 u0 r.1]) := by
 unfold VC at h
 refine Qp Tryz.func89 rfl 84 rfl rfl fun m0 w0 b0 => ?_
 show Run _ _ _ [(0, (ptr QI).slot p_t), (1, i64.slot p_q), (2, (sl u8).slot p_message)] _
 refine rs <| rt <| QN (T := 5) u8 rfl fun v1 => ?_
 refine jq (pa Qe) ?_
 refine Qd <| rs <| QJ <| rs <| rt <| jm ?_
 refine jq (WX (E := 153) (by kernel_rfl) (ht rfl)) ?_
 refine ja ?_
 refine Qd <| Qn (ht rfl) (fun e1 => ?_) (fun e1 => ?_)
 ·replace h := bt e1 h
  refine rs <| rt <| QN (T := 5) u8 rfl fun v2 => ?_
  refine jq (pa Qe) ?_
  refine Qd ?_
  obtain rfl := oi h
  exact Qo fun a w hst => JV hst rfl (.cons (.tmp rfl) <| .cons (.tmp rfl) <| .nil) rfl v2 (fun _ _ h => h) .h1
 ·replace h := bf e1 h
  refine rs <| rt <| jm ?_
  refine jq (Q7 (ht rfl) Qe) ?_
  refine jm ?_
  obtain ⟨y1, e3, h⟩ := bs h
  refine Jz (ι := Unit) (Γ' := fun _ => [(0, (ptr QI).slot p_t), (1, i64.slot p_q), (2, (sl u8).slot p_message), (23, bl.slot y1)]) (H' := fun _ => []) 5 ?_ fun J => ?_
  ·intro _
   clear e3
   show Jc _ _ _ [(0, (ptr QI).slot p_t), (1, i64.slot p_q), (2, (sl u8).slot p_message), (23, bl.slot y1)] [] _
   refine ja ?_
   refine Qd <| Qn (ht rfl) (fun e5 => ?_) (fun e5 => ?_)
   ·replace h := bt e5 h
    refine rs <| rt <| QN (T := 5) u8 rfl fun v3 => ?_
    refine jq (pa Qe) ?_
    refine Qd ?_
    obtain rfl := oi h
    exact Qo fun a w hst => JV hst rfl (.cons (.tmp rfl) <| .cons (.tmp rfl) <| .nil) rfl v3 (fun _ _ h => h) .h1
   ·replace h := bf e5 h
    refine Qm <| Qs <| rs ?_
    obtain ⟨x1, e6, h⟩ := bs h
    obtain ⟨x2, e7, h⟩ := bs h
    obtain ⟨x3, e8, h⟩ := bs h
    obtain ⟨r2, e9, h⟩ := bs h
    refine rd (n := 20) (.m rfl <| .p (JC (ht rfl) e6) <| .p (pft (ht rfl) (.t .s .f)) <| .p (plt (ht rfl)) <| .m rfl <| .p (JC (ht rfl) e7) <| .p (pft (ht rfl) (.t .s (.t .s .f))) <| .p (plt (ht rfl)) <| .m rfl <| .p (Jo (k := .u32) (b := 32) rfl rfl (by kernel_rfl) (ht rfl) Qh) <| .m rfl <| .p (JC (ht rfl) e8) <| .p (pft (ht rfl) (.t .s (.t .s (.t .s .f)))) <| .p (plt (ht rfl)) <| .m rfl <| .p (pc tl5 (Ctr.froze2 (Qep hg0 hg1 hg2 e9))) <| .m rfl <| .p (Wc (ht rfl) rfl) <| .p (Wc (ht rfl) rfl) <| .p (pa (ht rfl)) <| .nil) (Je (Γ' := [(0, (ptr QI).slot p_t), (1, i64.slot p_q), (8, (sl u8).slot r2.1), (42, i64.slot r2.2)]) (H' := []) .k4 (.nil) ?_)
    refine ja ?_
    refine Qd <| rs <| rs <| rt <| jm ?_
    refine jq (YG (ht rfl) Qe) ?_
    refine Qd <| Qn (ht rfl) (fun e10 => ?_) (fun e10 => ?_)
    ·replace h := bt e10 h
     refine rs <| rt <| jm ?_
     refine QN (T := 5) u8 rfl fun v4 => ?_
     refine ja ?_
     refine Qd ?_
     obtain rfl := oi h
     exact Qo fun a w hst => JV hst rfl (.cons (.tmp rfl) <| .cons (.tmp rfl) <| .nil) rfl v4 (fun _ _ h => h) .h1
    ·replace h := bf e10 h
     refine Qm <| rs <| rt <| jq (JZ (R := prod (exv (.slice none 0 0)) bl) (Qk X4 Bf) (by kernel_rfl) (by kernel_rfl) rfl .nil) ?_
     refine QaH (T1 := 5) u8 (ht rfl) rfl fun b1 v5 => ?_
     refine ja ?_
     refine Qd <| rs <| rt <| jm ?_
     refine jm ?_
     refine jq (Jo (k := .u32) (b := 32) rfl rfl (by kernel_rfl) (ht rfl) Qh) ?_
     obtain ⟨r3, e11, h⟩ := bs h
     refine jc tl2 (Z4 e11) (.cons (.next .here) <| .cons .here <| .nil) fun v6 => ?_
     refine Qd <| rs <| rt <| jm ?_
     refine jm ?_
     obtain ⟨r4, e12, h⟩ := bs h
     refine jc tl2 (J2 e12) .h2 fun v7 => ?_
     refine Qd <| rs <| rt <| jm ?_
     refine jm ?_
     obtain ⟨x4, e13, h⟩ := bs h
     refine jq (JC (ht rfl) e13) ?_
     refine jq (pft (ht rfl) .f) ?_
     refine jl ?_
     refine jq (Jo (k := .u32) (b := 32) rfl rfl (by kernel_rfl) (ht rfl) Qh) ?_
     obtain ⟨r5, e14, h⟩ := bs h
     refine jc tl2 (Z4 e14) .h2 fun v8 => ?_
     refine Qd <| rs <| rs <| rt <| jm ?_
     obtain ⟨r6, e15, h⟩ := bs h
     refine jq (pc tl1 (UC e15)) ?_
     refine jm ?_
     refine jq (QW (ht rfl) (ht rfl)) ?_
     refine ja ?_
     refine Qd ?_
     obtain ⟨⟨y5, y6, y7⟩, e20, h⟩ := bs h
     refine Q2 (Γi := fun (i : Value) (s : Int × Bool × (List (BitVec 8))) => [(0, (ptr QI).slot p_t), (10, val (.pointer (some ⟨b1, 0, none⟩))), (11, i64.slot s.1)]) (Hi := fun (i : Value) (s : Int × Bool × (List (BitVec 8))) => [box b1 161 (prod (exv i) bl) ((), s.2.1), own 5 u8 i s.2.2]) e20 v8 (fun a w hst => (hst.sub .k3).keep .h2) ?_ ?_
     ·clear h e20
      rintro v9 ⟨y2, y3, y4⟩ lr h
      change Xg p_t y2 y3 y4 = some _ at h
      show Run _ _ _ [(0, (ptr QI).slot p_t), (10, val (.pointer (some ⟨b1, 0, none⟩))), (11, i64.slot y2)] [box b1 161 (prod (exv v9) bl) ((), y3), own 5 u8 v9 y4]
      unfold Xg at h
      refine rs <| rs <| rt <| jm ?_
      refine jq (Xt (ht rfl) Qe) ?_
      refine Qd <| Qn (ht rfl) (fun e16 => ?_) (fun e16 => ?_)
      ·replace h := bt e16 h
       refine Qm <| rs <| QJ <| rt <| jm ?_
       refine jm ?_
       obtain ⟨x5, e17, h⟩ := bs h
       refine jq (JC (ht rfl) e17) ?_
       refine jq (pft (ht rfl) (.t .s (.t .s (.t .s .s)))) ?_
       refine jl ?_
       refine jm ?_
       refine jq (Qjv (ht rfl) Qe) ?_
       obtain ⟨x6, e18, h⟩ := bs h
       refine jq (pix (ht rfl) (ht rfl) Qh e18) ?_
       refine jq (JA (ht rfl) (by decide) (by kernel_rfl)) ?_
       obtain ⟨r7, e19, h⟩ := bs h
       refine jc tl2 (J2 e19) .h2 fun v10 => ?_
       refine Qd <| Qs <| rt <| jm ?_
       refine jq (B3 (ht rfl) Qe (by decide)) ?_
       refine ja ?_
       refine Qd ?_
       obtain rfl := oi h
       exact QZ v10 .k3 .h2
      ·replace h := bf e16 h
       obtain rfl := oi h
       exact Jf v9 .k3 .h2
     ·rintro v11
      show Run _ _ _ [(0, (ptr QI).slot p_t), (10, val (.pointer (some ⟨b1, 0, none⟩))), (11, i64.slot y5)] [box b1 161 (prod (exv v11) bl) ((), y6), own 5 u8 v11 y7]
      refine Q9 (Γ' := [(10, val (.pointer (some ⟨b1, 0, none⟩)))]) (H' := [box b1 161 (prod (exv v11) bl) ((), y6), own 5 u8 v11 y7]) .k1 .h2 ?_
      refine rs <| rt <| jm ?_
      obtain ⟨r8, e21, h⟩ := bs h
      refine jc tl1 (XO e21) .h2 fun ⟨v12, v13⟩ => ?_
      refine jx ?_
      refine jx ?_
      refine ja ?_
      refine ja ?_
      refine Qd ?_
      obtain rfl := oi h
      exact Qo fun a w hst => JV hst rfl (.cons (.tmp rfl) <| .cons (.tmp rfl) <| .nil) rfl v13 (fun _ _ h => h) (.cons (.next (.next .here)) <| .nil)
  ·rcases Jl (decide (p_q < (0 : Int))) with e2 | e2
   ·replace e3 := bt e2 e3
    refine jN e2 ?_
    refine jN e2 ?_
    refine jN e2 ?_
    refine jN e2 ?_
    refine jq (pk1 e2 QU (oi e3)) ?_
    exact Je .k4 (.nil) (J ())
   ·replace e3 := bf e2 e3
    refine jz (pm (ht rfl)) e2 ?_
    refine jz (pm (ht rfl)) e2 ?_
    obtain ⟨r1, e4, e3⟩ := bind_some e3
    refine jz (pc tl1 (UC e4)) e2 ?_
    refine jz (XF (ht rfl) (ht rfl)) e2 ?_
    refine jq (pk2 e2 (ht rfl) (oi e3)) ?_
    exact Je .k4 (.nil) (J ())
theorem QaE {G : GP} (hg0 : HG0 G) (hg1 : HG1 G) (hg2 : HG2 G) {p_s : Int × Int × Qa × (Option Qy) × (Option Qy) × Int} {p_n : Int} {p_message : List (BitVec 8)} {b_s : Nat} {r : (Int × Int × Qa × (Option Qy) × (Option Qy) × Int) × (List (BitVec 8)) × Int} (h : Vq p_s p_n p_message = some r) : Ctr Tryz.prog G 46 [val (.pointer (some ⟨b_s, 0, none⟩)), i64.slot p_n, (sl u8).slot p_message] [box b_s 102 (prod i64 (prod i64 (prod Qb (prod (ptr QI) (prod (ptr QI) i64))))) (p_s.1, p_s.2.1, p_s.2.2.1, p_s.2.2.2.1, p_s.2.2.2.2.1, p_s.2.2.2.2.2)] (fun (u0 : Value) => tup [ov u0, i64.slot r.2.2]) (fun (u0 : Value) => [box b_s 102 (prod i64 (prod i64 (prod Qb (prod (ptr QI) (prod (ptr QI) i64))))) (r.1.1, r.1.2.1, r.1.2.2.1, r.1.2.2.2.1, r.1.2.2.2.2.1, r.1.2.2.2.2.2), own 5 u8 u0 r.2.1]) := by
 unfold Vq at h
 refine Qp Tryz.func46 rfl 81 rfl rfl fun m0 w0 b0 => ?_
 show Run _ _ _ [(0, val (.pointer (some ⟨b_s, 0, none⟩))), (1, i64.slot p_n), (2, (sl u8).slot p_message)] _
 refine rs <| rt <| QN (T := 5) u8 rfl fun v1 => ?_
 refine jq (pa Qe) ?_
 refine Qd <| rs <| QJ <| rs <| rt <| jm ?_
 refine jq (Zl (E := 102) (by kernel_rfl) (ht rfl)) ?_
 refine ja ?_
 refine Qd <| Yi (ht rfl) rfl ?_
 refine rs <| rt <| jm ?_
 refine jq (Q7 (ht rfl) Qe) ?_
 refine jm ?_
 obtain ⟨y1, e3, h⟩ := bs h
 refine Jz (ι := Unit) (Γ' := fun _ => [(0, val (.pointer (some ⟨b_s, 0, none⟩))), (1, i64.slot p_n), (2, (sl u8).slot p_message), (26, bl.slot y1)]) (H' := fun _ => [box b_s 102 (prod i64 (prod i64 (prod Qb (prod (ptr QI) (prod (ptr QI) i64))))) (p_s.1, p_s.2.1, p_s.2.2.1, p_s.2.2.2.1, p_s.2.2.2.2.1, p_s.2.2.2.2.2)]) 5 ?_ fun J => ?_
 ·intro _
  clear e3
  show Jc _ _ _ [(0, val (.pointer (some ⟨b_s, 0, none⟩))), (1, i64.slot p_n), (2, (sl u8).slot p_message), (26, bl.slot y1)] [box b_s 102 (prod i64 (prod i64 (prod Qb (prod (ptr QI) (prod (ptr QI) i64))))) (p_s.1, p_s.2.1, p_s.2.2.1, p_s.2.2.2.1, p_s.2.2.2.2.1, p_s.2.2.2.2.2)] _
  refine ja ?_
  refine Qd <| Qn (ht rfl) (fun e5 => ?_) (fun e5 => ?_)
  ·replace h := bt e5 h
   refine rs <| rt <| QN (T := 5) u8 rfl fun v2 => ?_
   refine jq (pa Qe) ?_
   refine Qd ?_
   obtain rfl := oi h
   exact Qo fun a w hst => JV hst rfl (.cons (.tmp rfl) <| .cons (.tmp rfl) <| .nil) rfl v2 (fun _ _ h => h) (.cons (.next .here) <| .cons .here <| .nil)
  ·replace h := bf e5 h
   refine Qm <| Qs <| rs ?_
   obtain ⟨e6, h⟩ := QS h
   obtain ⟨e7, h⟩ := QS h
   refine rd (n := 15) (.m rfl <| .m rfl <| .p (Qv (ht rfl)) <| .p (pfp (off := 0) (ht rfl)) <| .p (plb (ht rfl) .here (.t .a .f)) <| .p (Ba (ht rfl) (ht rfl) Qh e6) <| .m rfl <| .m rfl <| .p (Qv (ht rfl)) <| .p (pfp (off := 0) (ht rfl)) <| .p (plb (ht rfl) .here (.t .a .f)) <| .p (KR Qe (ht rfl) Qh e7) <| .p (JS (ht rfl) Qe) <| .p (Qg0 (ht rfl) (ht rfl)) <| .p (pa (ht rfl)) <| .nil) (Je (Γ' := [(0, val (.pointer (some ⟨b_s, 0, none⟩))), (2, (sl u8).slot p_message), (8, i64.slot (UY p_n p_s.1)), (40, i64.slot (QfG p_n (w64 ((Xq (1 : Int) p_s.1) - (1 : Int)))))]) (H' := [box b_s 102 (prod i64 (prod i64 (prod Qb (prod (ptr QI) (prod (ptr QI) i64))))) (p_s.1, p_s.2.1, p_s.2.2.1, p_s.2.2.2.1, p_s.2.2.2.2.1, p_s.2.2.2.2.2)]) .k4 .h1 ?_)
   obtain ⟨x1, e8, h⟩ := bs h
   refine jq (PJ.eqv (pa (ht rfl)) (oi e8)) ?_
   refine Qd <| rs <| rt <| jm ?_
   refine jm ?_
   obtain ⟨r2, e9, h⟩ := bs h
   refine jc tl2 (Qap hg0 hg1 hg2 e9) .h1 fun _ => ?_
   refine jm ?_
   refine jx ?_
   refine jx ?_
   refine ja ?_
   refine ja ?_
   refine Qd <| rs <| rs <| rt <| jm ?_
   refine jq (YG (ht rfl) Qe) ?_
   refine Qd <| Qn (ht rfl) (fun e10 => ?_) (fun e10 => ?_)
   ·replace h := bt e10 h
    refine rs <| rt <| jm ?_
    refine QN (T := 5) u8 rfl fun v3 => ?_
    refine ja ?_
    refine Qd ?_
    obtain rfl := oi h
    exact Qo fun a w hst => JV hst rfl (.cons (.tmp rfl) <| .cons (.tmp rfl) <| .nil) rfl v3 (fun _ _ h => h) (.cons (.next .here) <| .cons .here <| .nil)
   ·replace h := bf e10 h
    refine Qm <| rs <| rt <| jm ?_
    obtain ⟨r3, e11, h⟩ := bs h
    refine jq (pc tl1 (Ctr.froze (Wt e11))) ?_
    refine ja ?_
    refine Qd <| rs <| rt <| jm ?_
    refine jq (Qv (ht rfl)) ?_
    refine jq (pfp (off := 34) (ht rfl)) ?_
    refine jq (plb (ht rfl) .here (.t .a (.t .s (.t .s (.t .s .f))))) ?_
    refine jm ?_
    refine jm ?_
    obtain ⟨r4, e12, h⟩ := bs h
    refine jq (pc tl3 (Ctr.froze2 (Bs hg0 hg1 hg2 e12))) ?_
    refine jm ?_
    refine jx ?_
    refine jx ?_
    refine ja ?_
    refine ja ?_
    refine Qd <| rs <| rs <| rt <| jm ?_
    refine jq (YG (ht rfl) Qe) ?_
    refine Qd <| Qn (ht rfl) (fun e13 => ?_) (fun e13 => ?_)
    ·replace h := bt e13 h
     refine rs <| rt <| jm ?_
     refine QN (T := 5) u8 rfl fun v4 => ?_
     refine ja ?_
     refine Qd ?_
     obtain rfl := oi h
     exact Qo fun a w hst => JV hst rfl (.cons (.tmp rfl) <| .cons (.tmp rfl) <| .nil) rfl v4 (fun _ _ h => h) (.cons (.next .here) <| .cons .here <| .nil)
    ·replace h := bf e13 h
     refine Qm <| rs <| rt <| jm ?_
     refine jm ?_
     refine jm ?_
     obtain ⟨r5, e14, h⟩ := bs h
     refine jq (pc tl3 (Ctr.froze2 (Bs hg0 hg1 hg2 e14))) ?_
     refine jm ?_
     refine jx ?_
     refine jx ?_
     refine ja ?_
     refine ja ?_
     refine Qd <| rs <| rs <| rt <| jm ?_
     refine jq (YG (ht rfl) Qe) ?_
     refine Qd <| Qn (ht rfl) (fun e15 => ?_) (fun e15 => ?_)
     ·replace h := bt e15 h
      refine rs <| rt <| jm ?_
      refine QN (T := 5) u8 rfl fun v5 => ?_
      refine ja ?_
      refine Qd ?_
      obtain rfl := oi h
      exact Qo fun a w hst => JV hst rfl (.cons (.tmp rfl) <| .cons (.tmp rfl) <| .nil) rfl v5 (fun _ _ h => h) (.cons (.next .here) <| .cons .here <| .nil)
     ·replace h := bf e15 h
      refine Qm <| rs <| rt <| jq (QT (T := 5) (R := u8) (.cons (QE (x := 0#8) rfl) (.cons (QE (x := 0#8) rfl) (.cons (QE (x := 0#8) rfl) (.cons (QE (x := 1#8) rfl) .nil)))) rfl (by kernel_rfl) (by kernel_rfl)) ?_
      refine jm ?_
      refine jm ?_
      refine jm ?_
      refine jq (QT (T := 31) (R := (sl u8)) (.cons (ht rfl) (.cons (ht rfl) (.cons (ht rfl) (.cons (ht rfl) .nil)))) rfl (by kernel_rfl) (by kernel_rfl)) ?_
      obtain ⟨r6, e16, h⟩ := bs h
      refine jc tl1 (Xx e16) .nil fun v6 => ?_
      refine ja ?_
      refine jq (pa Qe) ?_
      refine Qd ?_
      obtain rfl := oi h
      exact Qo fun a w hst => JV hst rfl (.cons (.tmp rfl) <| .cons (.tmp rfl) <| .nil) rfl v6 (fun _ _ h => h) (.cons (.next .here) <| .cons .here <| .nil)
 ·rcases Jl (decide (p_n < (0 : Int))) with e2 | e2
  ·replace e3 := bt e2 e3
   refine jN e2 ?_
   refine jN e2 ?_
   refine jN e2 ?_
   refine jN e2 ?_
   refine jq (pk1 e2 QU (oi e3)) ?_
   exact Je .k4 (.cons (.next .here) <| .nil) (J ())
  ·replace e3 := bf e2 e3
   refine jz (pm (ht rfl)) e2 ?_
   refine jz (pm (ht rfl)) e2 ?_
   obtain ⟨r1, e4, e3⟩ := bind_some e3
   refine jz (Vo tl1 (.next .here) (by kernel_rfl) (fun _ => (QaL e4))) e2 ?_
   refine jz (XF (ht rfl) (ht rfl)) e2 ?_
   refine jq (pk2 e2 (ht rfl) (oi e3)) ?_
   exact Je .k4 (.cons (.next .here) <| .nil) (J ())
theorem QeZ {G : GP} (hg0 : HG0 G) (hg1 : HG1 G) (hg2 : HG2 G) {p_s : Int × Int × Qa × (Option Qy) × (Option Qy) × Int} {p_n : Int} {p_h : JO} {b_s : Nat} {r : (Int × Int × Qa × (Option Qy) × (Option Qy) × Int) × Qr × Int} (h : WL p_s p_n p_h = some r) : Ctr Tryz.prog G 9 [val (.pointer (some ⟨b_s, 0, none⟩)), i64.slot p_n, Y0.slot p_h] [box b_s 102 (prod i64 (prod i64 (prod Qb (prod (ptr QI) (prod (ptr QI) i64))))) (p_s.1, p_s.2.1, p_s.2.2.1, p_s.2.2.2.1, p_s.2.2.2.2.1, p_s.2.2.2.2.2)] (fun (_ : Unit) => tup [Qg.slot r.2.1, i64.slot r.2.2]) (fun (_ : Unit) => [box b_s 102 (prod i64 (prod i64 (prod Qb (prod (ptr QI) (prod (ptr QI) i64))))) (r.1.1, r.1.2.1, r.1.2.2.1, r.1.2.2.2.1, r.1.2.2.2.2.1, r.1.2.2.2.2.2)]) := by
 unfold WL at h
 refine Qp Tryz.func9 rfl 34 rfl rfl fun m0 w0 b0 => ?_
 show Run _ _ _ [(0, val (.pointer (some ⟨b_s, 0, none⟩))), (1, i64.slot p_n), (2, Y0.slot p_h)] _
 refine rs <| rt <| jq (Q0 (ht rfl)) ?_
 refine al (x := ((0, 0, (Vector.replicate 32 (0#8)), (Vector.replicate 32 (0#8))), ([] : List (BitVec 8)))) (R := Qg) (Qk (Qk Qx (Qk Qx (Qk (QA 32 QH) (QA 32 QH)))) Jp) fun b1 => ?_
 refine jq (pa Qe) ?_
 refine Qd <| rs <| rt <| jl ?_
 obtain ⟨r1, e1, h⟩ := bs h
 refine jq (pc tl1 (Ctr.froze2 (qB e1))) ?_
 refine jm ?_
 refine jx ?_
 refine jx ?_
 refine ja ?_
 refine ja ?_
 refine Qd <| rs <| rs <| rt <| jm ?_
 refine jq (YG (ht rfl) Qe) ?_
 refine Qd <| Qn (ht rfl) (fun e2 => ?_) (fun e2 => ?_)
 ·replace h := bt e2 h
  refine rs <| rt <| jq (JZ (R := Qg) (Qk (Qk Qx (Qk Qx (Qk (QA 32 QH) (QA 32 QH)))) Jp) (by kernel_rfl) (by kernel_rfl) rfl .nil) ?_
  refine jm ?_
  obtain ⟨x1, e3, h⟩ := bs h
  refine ZF (r' := x1) (ht rfl) (ht rfl) .here .a (by kernel_rfl) (oi e3) ?_
  refine ja ?_
  refine Qd ?_
  obtain rfl := oi h
  exact Qo fun a w hst => JV hst rfl (.cons (.cell rfl .here (by kernel_rfl)) <| .cons (.tmp rfl) <| .nil) rfl () (fun _ _ h => h) (.cons (.next .here) <| .nil)
 ·replace h := bf e2 h
  refine Qm <| rs <| rt <| jm ?_
  refine jm ?_
  refine jm ?_
  obtain ⟨r2, e4, h⟩ := bs h
  refine jc tl3 (QaE hg0 hg1 hg2 e4) (.cons (.next .here) <| .nil) fun v1 => ?_
  refine jm ?_
  refine jx ?_
  refine jx ?_
  refine ja ?_
  refine ja ?_
  refine Qd <| rs <| rs <| rt <| jm ?_
  refine jq (YG (ht rfl) Qe) ?_
  refine Qd <| Qn (ht rfl) (fun e5 => ?_) (fun e5 => ?_)
  ·replace h := bt e5 h
   refine rs <| rt <| jq (JZ (R := Qg) (Qk (Qk Qx (Qk Qx (Qk (QA 32 QH) (QA 32 QH)))) Jp) (by kernel_rfl) (by kernel_rfl) rfl .nil) ?_
   refine jm ?_
   obtain ⟨x2, e6, h⟩ := bs h
   refine ZF (r' := x2) (ht rfl) (ht rfl) (.next (.next .here)) .a (by kernel_rfl) (oi e6) ?_
   refine ja ?_
   refine Qd ?_
   obtain rfl := oi h
   exact Qo fun a w hst => JV hst rfl (.cons (.cell rfl .here (by kernel_rfl)) <| .cons (.tmp rfl) <| .nil) rfl () (fun _ _ h => h) (.cons (.next .here) <| .nil)
  ·replace h := bf e5 h
   refine Qm <| rs <| rt <| jl ?_
   refine jm ?_
   refine Qcg [10, 25, 32] (.next .here) (KU (.of_lk rfl) <| KU (.of_lk rfl) <| KU (.of_lk rfl) <| Qb1) ?_
   obtain ⟨x3, e7, h⟩ := bs h
   refine jq (PJ.eqv (JZ (R := Qg) (Qk (Qk Qx (Qk Qx (Qk (QA 32 QH) (QA 32 QH)))) Jp) (by kernel_rfl) (by kernel_rfl) rfl (.cons (ht rfl) .f (by kernel_rfl) (.cons (ht rfl) .s (by kernel_rfl) .nil))) (oi e7)) ?_
   refine jk (r' := x3) (ht rfl) (ht rfl) (.next .here) .a ?_
   refine jq (pa Qe) ?_
   refine Qd ?_
   obtain rfl := oi h
   exact Qo fun a w hst => JV hst rfl (.cons (.cell rfl .here (by kernel_rfl)) <| .cons (.tmp rfl) <| .nil) rfl () (fun _ _ h => h) (.cons (.next .here) <| .nil)
end Go.Sl.W
