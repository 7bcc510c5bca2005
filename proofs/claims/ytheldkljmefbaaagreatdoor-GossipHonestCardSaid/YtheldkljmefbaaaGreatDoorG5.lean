import Derived.Test.YtheldkljmefbaaaGreatDoorG1
import Derived.Test.YtheldkljmefbaaaGreatDoorG4
import Derived.Test.YtheldkljmefbaaaGreatDoorProg
set_option linter.unusedSimpArgs false
set_option linter.unusedVariables false
set_option linter.unusedSectionVars false
namespace Go.Sl.W
open Go.Proofs Go.Sl Go.Sl.M
abbrev QC : Rep Jy := (prod i64 (prod i64 i64))
abbrev QD : Rep Q6 := vec 8 u32
abbrev QG : Rep QO := vec 16 u8
abbrev Qb : Rep Qa := vec 32 u8
abbrev QI : Rep Qy := (prod i64 (prod i64 (prod QG (prod Qb (sl Qb)))))
abbrev Qaz : Rep QdN := (prod i64 (prod i64 (prod Qb (prod (ptr QI) (prod (ptr QI) i64)))))
abbrev Y0 : Rep JO := (prod i64 (prod i64 (prod Qb Qb)))
abbrev Qg : Rep Qr := (prod Y0 (sl u8))
abbrev Qj : Rep Qw := (prod Qg Qg)
abbrev Ql : Rep QB := (prod i64 i64)
abbrev Ja : Rep Zb := (prod (sl u8) (prod (sl Qg) (prod (sl Qj) (sl Ql))))
abbrev qE : Rep Qdd := (prod (sl u8) bl)
abbrev QY : Rep UD := (prod i64 (prod (sl u8) (sl Qb)))
abbrev X0 : Rep Kb := (prod i64 (prod i64 (prod Qb Qb)))
abbrev Qi : Rep Qu := (prod i64 (prod i64 (sl Qb)))
abbrev QK : Rep Qz := (prod i64 (prod i64 Qb))
abbrev Za : Rep YS := (prod (sl Qb) (sl Qb))
abbrev Jn : Rep VV := (prod i64 (prod i64 (sl Qb)))
abbrev ZN : Rep VT := (prod (sl Qb) (sl Qb))
abbrev HG0 (G : GP) : Prop := ∀ m, G.p m → GAt 0 (vec 5 QC) Kl m
abbrev HG1 (G : GP) : Prop := ∀ m, G.p m → GAt 1 QD Zr m
abbrev HG2 (G : GP) : Prop := ∀ m, G.p m → GAt 2 (vec 64 u32) YY m
abbrev HG3 (G : GP) : Prop := ∀ m, G.p m → GAt 3 (vec 32 u8) Xy m
abbrev HG4 (G : GP) : Prop := ∀ m, G.p m → GAt 4 (vec 64 u8) Zq m
abbrev ht := @Zu
abbrev pm := @Qb4
abbrev pa := @QaY
abbrev oi := @Option.some.inj
abbrev pl := @Qad
abbrev hc := @Zo
abbrev rt := @Qix
abbrev rs := @QjG
set_option maxHeartbeats 4000000
set_option maxRecDepth 100000
theorem Uq {G : GP} {p_n : Int} {r : (List (BitVec 8))} (h : JX p_n = some r) : Ctr Tryz.prog G 100 [val (.slice none 0 0), i64.slot p_n] [] (fun (u0 : Value) => ov u0) (fun (u0 : Value) => [own 5 u8 u0 r]) := by
 unfold JX at h
 refine Qp Tryz.func100 rfl 27 rfl rfl fun m0 w0 b0 => ?_
 show Run _ _ _ [(0, val (.slice none 0 0)), (1, i64.slot p_n)] _
 refine rs <| rt <| QN (T := 5) u8 rfl fun v1 => ?_
 refine Qd <| rs <| rs <| rt <| jm ?_
 refine jq (Q7 (ht rfl) Qe) ?_
 refine Qd <| Qn (ht rfl) (fun e1 => ?_) (fun e1 => ?_)
 ·replace h := bt e1 h
  cases h
 ·replace h := bf e1 h
  refine Qm <| rs <| rs <| rt <| jm ?_
  refine jm ?_
  refine jq (qO (sz := 1) (ht rfl) (by kernel_rfl)) ?_
  refine jm ?_
  refine jq (Qc0 (sz := 1) (ht rfl) (by kernel_rfl)) ?_
  refine jq (JS (ht rfl) (ht rfl)) ?_
  refine jq (JS (ht rfl) (ht rfl)) ?_
  obtain ⟨x1, e2, h⟩ := bs h
  refine jq (PJ.eqv (pa (ht rfl)) (oi e2)) ?_
  refine Qd <| rs <| rt <| jm ?_
  refine jq (Xt (ht rfl) Qe) ?_
  refine Qd <| Qn (ht rfl) (fun e3 => ?_) (fun e3 => ?_)
  ·replace h := bt e3 h
   refine rt <| jm ?_
   refine jm ?_
   refine jq (qO (sz := 1) (ht rfl) (by kernel_rfl)) ?_
   refine jq (Qen (sz := 1) (ht rfl) (ht rfl) Qh (by kernel_rfl)) ?_
   refine jm ?_
   obtain ⟨e4, h⟩ := QS h
   refine Qef (T := 5) (R := u8) (z := (0#8)) (ht rfl) (ht rfl) e4 (by kernel_rfl) (by kernel_rfl) QH (by kernel_rfl) (by kernel_rfl) rfl fun v2 => ?_
   refine jm ?_
   refine jq (Qc0 (sz := 1) (ht rfl) (by kernel_rfl)) ?_
   obtain ⟨e5, h⟩ := QS h
   refine Qby (ht rfl) .here (ht rfl) Qh e5.1 e5.2 (by kernel_rfl) rfl fun v3 => ?_
   refine ja ?_
   refine Qd <| rs <| rt <| jm ?_
   refine ja ?_
   refine Qd ?_
   obtain rfl := oi h
   exact Qo fun a w hst => QL hst rfl (.tmp rfl) v3 (fun _ _ h => h) .h1
  ·replace h := bf e3 h
   refine Qm <| rs <| rt <| jm ?_
   refine KE 5 u8 none (jq (pa (QgB (ht rfl))) ?_)
   refine Qd ?_
   obtain rfl := oi h
   exact Qo fun a w hst => QL hst rfl (.tmp rfl) (.slice none 0 0) (fun _ _ h => h) .h1
theorem Xx {G : GP} {p_slices : List (List (BitVec 8))} {r : (List (BitVec 8))} (h : JR p_slices = some r) : Ctr Tryz.prog G 54 [(sl (sl u8)).slot p_slices] [] (fun (u0 : Value) => ov u0) (fun (u0 : Value) => [own 5 u8 u0 r]) := by
 unfold JR at h
 refine Qp Tryz.func54 rfl 36 rfl rfl fun m0 w0 b0 => ?_
 show Run _ _ _ [(0, (sl (sl u8)).slot p_slices)] _
 refine rs <| rt <| QN (T := 5) u8 rfl fun v1 => ?_
 refine Qd <| rs <| rt <| jq (pa Qe) ?_
 refine Qd <| rs <| rs <| rt <| jm ?_
 refine jq (QX (sz := 1) (ht rfl) (by kernel_rfl)) ?_
 refine jq (pm Qe) ?_
 refine Qd ?_
 obtain ⟨⟨y3, y4⟩, e4, h⟩ := bs h
 refine Q2 (Γi := fun (i : Unit) (s : Int × Int) => [(0, (sl (sl u8)).slot p_slices), (3, i64.slot s.1), (9, (sl (sl u8)).slot p_slices), (10, i64.slot (p_slices.length : Int)), (11, i64.slot s.2)]) (Hi := fun (i : Unit) (s : Int × Int) => []) e4 () (fun a w hst => (hst.sub .k5).keep (.nil)) ?_ ?_
 ·clear h e4
  rintro _ ⟨y1, y2⟩ lr h
  change Jj p_slices y1 y2 = some _ at h
  show Run _ _ _ [(0, (sl (sl u8)).slot p_slices), (3, i64.slot y1), (9, (sl (sl u8)).slot p_slices), (10, i64.slot (p_slices.length : Int)), (11, i64.slot y2)] []
  unfold Jj at h
  refine rs <| rt <| jq (Q7 (ht rfl) (ht rfl)) ?_
  refine Qd <| rs <| Qn (ht rfl) (fun e1 => ?_) (fun e1 => ?_)
  ·replace h := bt e1 h
   refine Qm <| rs <| QJ <| rs <| rt ?_
   obtain ⟨x1, e2, h⟩ := bs h
   refine jq (pix (ht rfl) (ht rfl) Qh e2) ?_
   refine jl ?_
   refine ja ?_
   refine Qd <| rs <| rt <| jm ?_
   refine jm ?_
   refine jq (QX (sz := 1) (ht rfl) (by kernel_rfl)) ?_
   refine jq (QW (ht rfl) (ht rfl)) ?_
   refine ja ?_
   refine Qd <| rs <| rt <| jm ?_
   refine jq (Q7 (ht rfl) Qe) ?_
   refine Qd <| Qn (ht rfl) (fun e3 => ?_) (fun e3 => ?_)
   ·replace h := bt e3 h
    cases h
   ·replace h := bf e3 h
    refine Qm <| Qs <| rt <| jq (QW (ht rfl) Qe) ?_
    refine jm ?_
    refine Qd ?_
    obtain rfl := oi h
    exact QZ () .k5 (.nil)
  ·replace h := bf e1 h
   obtain rfl := oi h
   exact Jf () .k5 (.nil)
 ·rintro _
  show Run _ _ _ [(0, (sl (sl u8)).slot p_slices), (3, i64.slot y3), (9, (sl (sl u8)).slot p_slices), (10, i64.slot (p_slices.length : Int)), (11, i64.slot y4)] []
  refine Q9 (Γ' := [(0, (sl (sl u8)).slot p_slices), (3, i64.slot y3)]) (H' := []) .k2 (.nil) ?_
  refine rs <| rt <| jm ?_
  obtain ⟨r1, e5, h⟩ := bs h
  refine jc (hc QiW <| hc (ht rfl) <| Q3) (Uq e5) .nil fun v2 => ?_
  refine ja ?_
  refine Qd <| rs <| rs <| rt <| jm ?_
  refine jq (QX (sz := 1) (ht rfl) (by kernel_rfl)) ?_
  refine jq (pm Qe) ?_
  refine Qd ?_
  obtain ⟨⟨y7, y8⟩, e9, h⟩ := bs h
  refine Q2 (Γi := fun (i : Value) (s : Int × (List (BitVec 8))) => [(6, ov i), (25, (sl (sl u8)).slot p_slices), (26, i64.slot (p_slices.length : Int)), (27, i64.slot s.1)]) (Hi := fun (i : Value) (s : Int × (List (BitVec 8))) => [own 5 u8 i s.2]) e9 v2 (fun a w hst => (hst.sub .k4).keep .h1) ?_ ?_
  ·clear h e9
   rintro v3 ⟨y5, y6⟩ lr h
   change Ji p_slices y5 y6 = some _ at h
   show Run _ _ _ [(6, ov v3), (25, (sl (sl u8)).slot p_slices), (26, i64.slot (p_slices.length : Int)), (27, i64.slot y5)] [own 5 u8 v3 y6]
   unfold Ji at h
   refine rs <| rt <| jq (Q7 (ht rfl) (ht rfl)) ?_
   refine Qd <| rs <| Qn (ht rfl) (fun e6 => ?_) (fun e6 => ?_)
   ·replace h := bt e6 h
    refine Qm <| rs <| QJ <| rs <| rt ?_
    obtain ⟨x2, e7, h⟩ := bs h
    refine jq (pix (ht rfl) (ht rfl) Qh e7) ?_
    refine jl ?_
    refine ja ?_
    refine Qd <| rt <| jm ?_
    refine jm ?_
    obtain ⟨e8, h⟩ := QS h
    refine JQ (T := 5) (E := 5) (ht rfl) .here (JE (ht rfl)) (by kernel_rfl) (by kernel_rfl) e8 rfl fun v4 => ?_
    refine ja ?_
    refine Qd <| Qs <| rt <| jq (QW (ht rfl) Qe) ?_
    refine jm ?_
    refine Qd ?_
    obtain rfl := oi h
    exact QZ v4 .k4 .h1
   ·replace h := bf e6 h
    obtain rfl := oi h
    exact Jf v3 .k4 .h1
  ·rintro v5
   show Run _ _ _ [(6, ov v5), (25, (sl (sl u8)).slot p_slices), (26, i64.slot (p_slices.length : Int)), (27, i64.slot y7)] [own 5 u8 v5 y8]
   refine Q9 (Γ' := [(6, ov v5)]) (H' := [own 5 u8 v5 y8]) .k1 .h1 ?_
   refine rs <| rt <| jm ?_
   refine ja ?_
   refine Qd ?_
   obtain rfl := oi h
   exact Qo fun a w hst => QL hst rfl (.tmp rfl) v5 (fun _ _ h => h) .h1
theorem Uu {G : GP} {p_w : (List (BitVec 8)) × Bool} {p_x : BitVec 64} {p_bytes : Int} {b_w : Nat} {v_w0 : Value} {r : ((List (BitVec 8)) × Bool)} (h : ZM p_w p_x p_bytes = some r) : Ctr Tryz.prog G 130 [val (.pointer (some ⟨b_w, 0, none⟩)), u64.slot p_x, i64.slot p_bytes] [box b_w 161 (prod (exv v_w0) bl) ((), p_w.2), own 5 u8 v_w0 p_w.1] (fun (u0 : Value) => tup []) (fun (u0 : Value) => [box b_w 161 (prod (exv u0) bl) ((), r.2), own 5 u8 u0 r.1]) := by
 unfold ZM at h
 refine Qp Tryz.func130 rfl 35 rfl rfl fun m0 w0 b0 => ?_
 show Run _ _ _ [(0, val (.pointer (some ⟨b_w, 0, none⟩))), (1, u64.slot p_x), (2, i64.slot p_bytes)] _
 refine rs <| rs <| rt <| jm ?_
 refine jq (Zl (E := 161) (by kernel_rfl) (ht rfl)) ?_
 refine jm ?_
 obtain ⟨y1, e2, h⟩ := bs h
 refine Jz (ι := Unit) (Γ' := fun _ => [(0, val (.pointer (some ⟨b_w, 0, none⟩))), (1, u64.slot p_x), (2, i64.slot p_bytes), (14, bl.slot y1)]) (H' := fun _ => [box b_w 161 (prod (exv v_w0) bl) ((), p_w.2), own 5 u8 v_w0 p_w.1]) 5 ?_ fun J => ?_
 ·intro _
  clear e2
  show Jc _ _ _ [(0, val (.pointer (some ⟨b_w, 0, none⟩))), (1, u64.slot p_x), (2, i64.slot p_bytes), (14, bl.slot y1)] [box b_w 161 (prod (exv v_w0) bl) ((), p_w.2), own 5 u8 v_w0 p_w.1] _
  refine Qd <| Qn (ht rfl) (fun e3 => ?_) (fun e3 => ?_)
  ·replace h := bt e3 h
   obtain rfl := oi h
   exact Qo fun a w hst => JV hst rfl (.nil) rfl v_w0 (fun _ _ h => h) .h2
  ·replace h := bf e3 h
   refine Qm <| rs <| rt <| jm ?_
   refine jq (JS (ht rfl) Qe) ?_
   refine ja ?_
   refine Qd ?_
   obtain ⟨⟨y4, y5⟩, e7, h⟩ := bs h
   refine Q2 (Γi := fun (i : Value) (s : Int × (List (BitVec 8))) => [(0, val (.pointer (some ⟨b_w, 0, none⟩))), (1, u64.slot p_x), (6, i64.slot s.1)]) (Hi := fun (i : Value) (s : Int × (List (BitVec 8))) => [box b_w 161 (prod (exv i) bl) ((), p_w.2), own 5 u8 i s.2]) e7 v_w0 (fun a w hst => (hst.sub .k3).keep .h2) ?_ ?_
   ·clear h e7
    rintro v1 ⟨y2, y3⟩ lr h
    change ZB p_x y2 y3 = some _ at h
    show Run _ _ _ [(0, val (.pointer (some ⟨b_w, 0, none⟩))), (1, u64.slot p_x), (6, i64.slot y2)] [box b_w 161 (prod (exv v1) bl) ((), p_w.2), own 5 u8 v1 y3]
    unfold ZB at h
    refine rs <| rs <| rt <| jm ?_
    refine jq (XF (ht rfl) Qe) ?_
    refine Qd <| Qn (ht rfl) (fun e4 => ?_) (fun e4 => ?_)
    ·replace h := bt e4 h
     refine Qm <| rs <| QJ ?_
     obtain ⟨e5, h⟩ := QS h
     obtain ⟨e6, h⟩ := QS h
     refine Xn (H' := [own 5 u8 v1 y3, box b_w 161 (prod (exv v1) bl) ((), p_w.2)]) (.cons (.next .here) <| .cons .here <| .nil) ?_
     refine rdL (n := 12) (H := [box b_w 161 (prod (exv v1) bl) ((), p_w.2)]) (Ls := [⟨[own 5 u8 v1 y3], [(11, ⟨Value, fun (v2 : Value) => [own 5 u8 v2 (y3 ++ ([(p_x >>> ((w64 ((8 : Int) * y2)).toNat)).setWidth 8]))], fun (v2 : Value) => [(32, ov v2)]⟩)]⟩]) (.m rfl <| .m rfl <| .p (Qv (ht rfl)) <| .p (pfp (off := 0) (ht rfl)) <| .p (plb (ht rfl) .here (.t .a .f)) <| .m rfl <| .m rfl <| .p (XJ Qe (ht rfl)) <| .p (Xe (k := .u64) (b := 64) rfl (ht rfl) (ht rfl) Qh e5) <| .p (Zi (k := .u8) (b := 8) rfl rfl (by kernel_rfl) (ht rfl)) <| .p (QT (T := 5) (R := u8) (.cons (ht rfl) .nil) rfl (by kernel_rfl) (by kernel_rfl)) <| .step 0 rfl .here (.inl rfl) (fun i => ⟨_, _, fun j => j, (Qc7 (T := 5) (E := 5) (ht rfl) .here (JE (ht rfl)) (by kernel_rfl) (by kernel_rfl) e6 rfl), fun _ => rfl, VJ, Bh⟩) <| .nil) ?_
     rintro v2
     refine Je (Γ' := [(0, val (.pointer (some ⟨b_w, 0, none⟩))), (1, u64.slot p_x), (6, i64.slot y2), (21, val (.pointer (some ⟨b_w, 0, none⟩))), (32, ov v2)]) (H' := [own 5 u8 v2 (y3 ++ ([(p_x >>> ((w64 ((8 : Int) * y2)).toNat)).setWidth 8])), box b_w 161 (prod (exv v1) bl) ((), p_w.2)]) .k5 .h2 ?_
     refine jq (Qv (ht rfl)) ?_
     refine jq (pfp (off := 0) (ht rfl)) ?_
     refine Qbo (ht rfl) (ht rfl) (.next .here) (by kernel_rfl) ?_
     refine Qd <| Qs <| rt <| jm ?_
     refine jq (JS (ht rfl) Qe) ?_
     refine ja ?_
     refine Qd ?_
     obtain rfl := oi h
     exact QZ v2 .k3 .h2
    ·replace h := bf e4 h
     obtain rfl := oi h
     exact Jf v1 .k3 .h2
   ·rintro v3
    show Run _ _ _ [(0, val (.pointer (some ⟨b_w, 0, none⟩))), (1, u64.slot p_x), (6, i64.slot y4)] [box b_w 161 (prod (exv v3) bl) ((), p_w.2), own 5 u8 v3 y5]
    refine Q9 (Γ' := []) (H' := [box b_w 161 (prod (exv v3) bl) ((), p_w.2), own 5 u8 v3 y5]) (.nil) .h2 ?_
    obtain rfl := oi h
    exact YV fun a w hst => Ki hst rfl (.nil) rfl v3 (fun _ _ h => h) .h2
 ·have e1 : (false) = false := rfl
  refine jz (pm (ht rfl)) e1 ?_
  refine jz (Qv (ht rfl)) e1 ?_
  refine jz (pfp (off := 1) (ht rfl)) e1 ?_
  refine jz (plb (ht rfl) .here (.t .a .s)) e1 ?_
  refine jq (pk2 e1 (ht rfl) (oi e2)) ?_
  exact Je .k4 .h2 (J ())
theorem Z4 {G : GP} {p_w : (List (BitVec 8)) × Bool} {p_x : BitVec 32} {b_w : Nat} {v_w0 : Value} {r : ((List (BitVec 8)) × Bool)} (h : Zg p_w p_x = some r) : Ctr Tryz.prog G 84 [val (.pointer (some ⟨b_w, 0, none⟩)), u32.slot p_x] [box b_w 161 (prod (exv v_w0) bl) ((), p_w.2), own 5 u8 v_w0 p_w.1] (fun (u0 : Value) => tup []) (fun (u0 : Value) => [box b_w 161 (prod (exv u0) bl) ((), r.2), own 5 u8 u0 r.1]) := by
 unfold Zg at h
 refine Qp Tryz.func84 rfl 8 rfl rfl fun m0 w0 b0 => ?_
 show Run _ _ _ [(0, val (.pointer (some ⟨b_w, 0, none⟩))), (1, u32.slot p_x)] _
 refine rt <| jm ?_
 refine jm ?_
 refine jq (Zi (k := .u64) (b := 64) rfl rfl (by kernel_rfl) (ht rfl)) ?_
 obtain ⟨r1, e1, h⟩ := bs h
 refine jc (hc (ht rfl) <| hc (ht rfl) <| hc Qe <| Q3) (Uu e1) .h2 fun v1 => ?_
 refine Qd ?_
 obtain rfl := oi h
 exact YV fun a w hst => Ki hst rfl (.nil) rfl v1 (fun _ _ h => h) .h2
theorem J2 {G : GP} {p_w : (List (BitVec 8)) × Bool} {p_b : List (BitVec 8)} {b_w : Nat} {v_w0 : Value} {r : ((List (BitVec 8)) × Bool)} (h : JI p_w p_b = some r) : Ctr Tryz.prog G 85 [val (.pointer (some ⟨b_w, 0, none⟩)), (sl u8).slot p_b] [box b_w 161 (prod (exv v_w0) bl) ((), p_w.2), own 5 u8 v_w0 p_w.1] (fun (u0 : Value) => tup []) (fun (u0 : Value) => [box b_w 161 (prod (exv u0) bl) ((), r.2), own 5 u8 u0 r.1]) := by
 unfold JI at h
 refine Qp Tryz.func85 rfl 22 rfl rfl fun m0 w0 b0 => ?_
 show Run _ _ _ [(0, val (.pointer (some ⟨b_w, 0, none⟩))), (1, (sl u8).slot p_b)] _
 refine rs <| rt <| jm ?_
 refine jq (Qde (E := 161) (by kernel_rfl) (ht rfl)) ?_
 refine jm ?_
 obtain ⟨y1, e2, h⟩ := bs h
 refine Jz (ι := Unit) (Γ' := fun _ => [(0, val (.pointer (some ⟨b_w, 0, none⟩))), (1, (sl u8).slot p_b), (12, bl.slot y1)]) (H' := fun _ => [box b_w 161 (prod (exv v_w0) bl) ((), p_w.2), own 5 u8 v_w0 p_w.1]) 6 ?_ fun J => ?_
 ·intro _
  clear e2
  show Jc _ _ _ [(0, val (.pointer (some ⟨b_w, 0, none⟩))), (1, (sl u8).slot p_b), (12, bl.slot y1)] [box b_w 161 (prod (exv v_w0) bl) ((), p_w.2), own 5 u8 v_w0 p_w.1] _
  refine Qd <| Qn (ht rfl) (fun e3 => ?_) (fun e3 => ?_)
  ·replace h := bt e3 h
   refine rt <| jm ?_
   refine jm ?_
   refine jq (Qv (ht rfl)) ?_
   refine jq (pfp (off := 0) (ht rfl)) ?_
   refine jq (plb (ht rfl) .here (.t .a .f)) ?_
   refine jm ?_
   obtain ⟨e4, h⟩ := QS h
   refine JQ (T := 5) (E := 5) (ht rfl) (.next .here) (JE (ht rfl)) (by kernel_rfl) (by kernel_rfl) e4 rfl fun v1 => ?_
   refine jq (Qv (ht rfl)) ?_
   refine jq (pfp (off := 0) (ht rfl)) ?_
   refine Qbo (ht rfl) (ht rfl) (.next .here) (by kernel_rfl) ?_
   refine Qd ?_
   obtain rfl := oi h
   exact YV fun a w hst => Ki hst rfl (.nil) rfl v1 (fun _ _ h => h) .h2
  ·replace h := bf e3 h
   refine Qm ?_
   obtain rfl := oi h
   exact YV fun a w hst => Ki hst rfl (.nil) rfl v_w0 (fun _ _ h => h) .h2
 ·have e1 : (true) = true := rfl
  refine jz (pm (ht rfl)) e1 ?_
  refine jz (Qv (ht rfl)) e1 ?_
  refine jz (pfp (off := 1) (ht rfl)) e1 ?_
  refine jz (plb (ht rfl) .here (.t .a .s)) e1 ?_
  refine jz (ZI (ht rfl)) e1 ?_
  refine jq (pk1 e1 (ht rfl) (oi e2)) ?_
  exact Je .k3 .h2 (J ())
theorem YT {G : GP} {p_s : List (BitVec 8)} {r : (List (BitVec 8))} (h : Jq p_s = some r) : Ctr Tryz.prog G 56 [(sl u8).slot p_s] [] (fun (u0 : Value) => ov u0) (fun (u0 : Value) => [own 5 u8 u0 r]) := by
 unfold Jq at h
 refine Qp Tryz.func56 rfl 8 rfl rfl fun m0 w0 b0 => ?_
 show Run _ _ _ [(0, (sl u8).slot p_s)] _
 refine rs <| rt <| QN (T := 5) u8 rfl fun v1 => ?_
 refine Qd <| rs <| rs <| rt <| jm ?_
 refine jq (QiA (E := 5) (by kernel_rfl) (ht rfl)) ?_
 refine Qd <| Qed (ht rfl) (fun e0 => ?_) ?_
 ·subst e0
  obtain ⟨e1, h⟩ := QS h
  obtain rfl := oi h
  refine rs <| rt <| QN (T := 5) u8 rfl fun v2 => ?_
  exact Qd <| Qo fun a w hst => QL hst rfl (.tmp rfl) v2 (fun _ _ h => h) .h1
 refine Qm <| rs <| rt <| V4 (T := 5) (R := u8) .nil rfl (by kernel_rfl) (by kernel_rfl) rfl fun v2 => ?_
 refine jm ?_
 obtain ⟨e1, h⟩ := QS h
 refine JQ (T := 5) (E := 5) (ht rfl) .here (JE (ht rfl)) (by kernel_rfl) (by kernel_rfl) e1 rfl fun v3 => ?_
 refine ja ?_
 refine Qd ?_
 obtain rfl := oi h
 exact Qo fun a w hst => QL hst rfl (.tmp rfl) v3 (fun _ _ h => h) .h1
theorem XO {G : GP} {p_w : (List (BitVec 8)) × Bool} {b_w : Nat} {v_w0 : Value} {r : ((List (BitVec 8)) × Bool) × (List (BitVec 8)) × Int} (h : Yc p_w = some r) : Ctr Tryz.prog G 86 [val (.pointer (some ⟨b_w, 0, none⟩))] [box b_w 161 (prod (exv v_w0) bl) ((), p_w.2), own 5 u8 v_w0 p_w.1] (fun (i : Value × Value) => tup [ov i.2, i64.slot r.2.2]) (fun (i : Value × Value) => [box b_w 161 (prod (exv i.1) bl) ((), r.1.2), own 5 u8 i.1 r.1.1, own 5 u8 i.2 r.2.1]) := by
 unfold Yc at h
 refine Qp Tryz.func86 rfl 17 rfl rfl fun m0 w0 b0 => ?_
 show Run _ _ _ [(0, val (.pointer (some ⟨b_w, 0, none⟩)))] _
 refine rs <| rt <| QN (T := 5) u8 rfl fun v1 => ?_
 refine jq (pa Qe) ?_
 refine Qd <| rs <| QJ <| rs <| rt <| jm ?_
 refine jq (Zl (E := 161) (by kernel_rfl) (ht rfl)) ?_
 refine ja ?_
 refine Qd <| Yi (ht rfl) rfl ?_
 refine rs <| rt <| jm ?_
 refine jq (Qv (ht rfl)) ?_
 refine jq (pfp (off := 1) (ht rfl)) ?_
 refine jq (plb (ht rfl) (.next .here) (.t .a .s)) ?_
 refine ja ?_
 refine Qd <| Qn (ht rfl) (fun e2 => ?_) (fun e2 => ?_)
 ·replace h := bt e2 h
  refine rs <| rt <| QN (T := 5) u8 rfl fun v2 => ?_
  refine jq (pa Qe) ?_
  refine Qd ?_
  obtain rfl := oi h
  exact Qo fun a w hst => JV hst rfl (.cons (.tmp rfl) <| .cons (.tmp rfl) <| .nil) rfl (v_w0, v2) (fun _ _ h => h) (.cons (.next (.next .here)) <| .cons (.next (.next .here)) <| .cons .here <| .nil)
 ·replace h := bf e2 h
  refine Qm <| Qs <| rs <| rt <| jm ?_
  refine jq (Qv (ht rfl)) ?_
  refine jq (pfp (off := 0) (ht rfl)) ?_
  refine jq (plb (ht rfl) (.next .here) (.t .a .f)) ?_
  obtain ⟨r1, e3, h⟩ := bs h
  refine QjP (Q1 (VO (ht rfl) (.next (.next .here))) <| Zj) (by kernel_rfl) (YT e3) (fun i => Rep.flat_slot (Qjr i) _) (fun i e he => by rw [List.mem_singleton.1 he]; exact QeN (V9 _ _) _ _) rfl fun v3 => ?_
  refine ja ?_
  refine jq (pa Qe) ?_
  refine Qd ?_
  obtain rfl := oi h
  exact Qo fun a w hst => JV hst rfl (.cons (.tmp rfl) <| .cons (.tmp rfl) <| .nil) rfl (v_w0, v3) (fun _ _ h => h) (.cons (.next (.next .here)) <| .cons (.next (.next .here)) <| .cons .here <| .nil)
theorem Wt {G : GP} {p_t : Option Qy} {r : (List (BitVec 8))} (h : XA p_t = some r) : Ctr Tryz.prog G 55 [(ptr QI).slot p_t] [] (fun (u0 : Value) => ov u0) (fun (u0 : Value) => [own 5 u8 u0 r]) := by
 unfold XA at h
 refine Qp Tryz.func55 rfl 44 rfl rfl fun m0 w0 b0 => ?_
 show Run _ _ _ [(0, (ptr QI).slot p_t)] _
 refine rs <| rt <| QN (T := 5) u8 rfl fun v1 => ?_
 refine Qd <| rs <| rs <| rt <| jm ?_
 refine jq (WX (E := 153) (by kernel_rfl) (ht rfl)) ?_
 refine Qd <| Qn (ht rfl) (fun e1 => ?_) (fun e1 => ?_)
 ·replace h := bt e1 h
  refine rs <| rt <| QN (T := 5) u8 rfl fun v2 => ?_
  refine Qd ?_
  obtain rfl := oi h
  exact Qo fun a w hst => QL hst rfl (.tmp rfl) v2 (fun _ _ h => h) .h1
 ·replace h := bf e1 h
  refine Qm <| rs <| rt <| jq (JZ (R := prod (exv (.slice none 0 0)) bl) (Qk X4 Bf) (by kernel_rfl) (by kernel_rfl) rfl .nil) ?_
  refine QaH (T1 := 5) u8 (ht rfl) rfl fun b1 v3 => ?_
  refine ja ?_
  refine Qd <| rs <| rt <| jm ?_
  refine jm ?_
  obtain ⟨x1, e2, h⟩ := bs h
  refine jq (JC (ht rfl) e2) ?_
  refine jq (pft (ht rfl) .f) ?_
  refine jl ?_
  refine jq (Jo (k := .u32) (b := 32) rfl rfl (by kernel_rfl) (ht rfl) Qh) ?_
  obtain ⟨r1, e3, h⟩ := bs h
  refine jc tl2 (Z4 e3) (.cons (.next .here) <| .cons .here <| .nil) fun v4 => ?_
  refine Qd <| rs <| rt <| jm ?_
  refine jm ?_
  obtain ⟨x2, e4, h⟩ := bs h
  refine jq (JC (ht rfl) e4) ?_
  refine jq (pft (ht rfl) (.t .s .f)) ?_
  refine jl ?_
  refine jq (Jo (k := .u32) (b := 32) rfl rfl (by kernel_rfl) (ht rfl) Qh) ?_
  obtain ⟨r2, e5, h⟩ := bs h
  refine jc tl2 (Z4 e5) .h2 fun v5 => ?_
  refine Qd <| rs <| rt <| jm ?_
  refine jm ?_
  obtain ⟨x3, e6, h⟩ := bs h
  refine jq (JC (ht rfl) e6) ?_
  refine jq (pft (ht rfl) (.t .s (.t .s .f))) ?_
  refine jq (JA (ht rfl) (by decide) (by kernel_rfl)) ?_
  obtain ⟨r3, e7, h⟩ := bs h
  refine jc tl2 (J2 e7) .h2 fun v6 => ?_
  refine Qd <| rs <| rt <| jm ?_
  refine jm ?_
  obtain ⟨x4, e8, h⟩ := bs h
  refine jq (JC (ht rfl) e8) ?_
  refine jq (pft (ht rfl) (.t .s (.t .s (.t .s .s)))) ?_
  refine jl ?_
  obtain ⟨x5, e9, h⟩ := bs h
  refine jq (pix (ht rfl) Qe Qh e9) ?_
  refine jq (JA (ht rfl) (by decide) (by kernel_rfl)) ?_
  obtain ⟨r4, e10, h⟩ := bs h
  refine jc tl2 (J2 e10) .h2 fun v7 => ?_
  refine Qd <| rs <| rt <| jm ?_
  obtain ⟨r5, e11, h⟩ := bs h
  refine jc tl1 (XO e11) .h2 fun ⟨v8, v9⟩ => ?_
  refine jm ?_
  refine jx ?_
  refine jx ?_
  refine ja ?_
  refine ja ?_
  refine Qd <| rs <| rt <| jm ?_
  refine ja ?_
  refine Qd ?_
  obtain rfl := oi h
  exact Qo fun a w hst => QL hst rfl (.tmp rfl) v9 (fun _ _ h => h) (.cons (.next (.next .here)) <| .nil)
theorem UJ {G : GP} {p_s : Int × Int × Qa × (Option Qy) × (Option Qy) × Int} {b_s : Nat} {c_s : List Value} {r : (List (BitVec 8))} (h : Z1 p_s = some r) : Ctr Tryz.prog G 15 [val (.pointer (some ⟨b_s, 0, none⟩))] [box b_s 102 (exr (prod i64 (prod i64 (prod Qb (prod (ptr QI) (prod (ptr QI) i64))))) c_s) (p_s.1, p_s.2.1, p_s.2.2.1, p_s.2.2.2.1, p_s.2.2.2.2.1, p_s.2.2.2.2.2)] (fun (u0 : Value) => ov u0) (fun (u0 : Value) => [box b_s 102 (exr (prod i64 (prod i64 (prod Qb (prod (ptr QI) (prod (ptr QI) i64))))) c_s) (p_s.1, p_s.2.1, p_s.2.2.1, p_s.2.2.2.1, p_s.2.2.2.2.1, p_s.2.2.2.2.2), own 5 u8 u0 r]) := by
 unfold Z1 at h
 refine Qp Tryz.func15 rfl 13 rfl rfl fun m0 w0 b0 => ?_
 show Run _ _ _ [(0, val (.pointer (some ⟨b_s, 0, none⟩)))] _
 refine rs <| rt <| QN (T := 5) u8 rfl fun v1 => ?_
 refine Qd <| rs <| rs <| rt <| jq (PJ.xw (.keep (.ex .refl)) (pm (ht rfl))) ?_
 refine jq (PJ.xw (.keep (.ex .refl)) (Zl (E := 102) (by kernel_rfl) (ht rfl))) ?_
 refine Qd <| Yi (ht rfl) rfl ?_
 refine Qm <| rs <| rt <| jq (PJ.xw (.keep (.ex .refl)) (QT (T := 5) (R := u8) (.cons (QE (x := 0#8) rfl) (.cons (QE (x := 0#8) rfl) (.cons (QE (x := 0#8) rfl) (.cons (QE (x := 2#8) rfl) .nil)))) rfl (by kernel_rfl) (by kernel_rfl))) ?_
 refine jq (PJ.xw (.keep (.ex .refl)) (pm (ht rfl))) ?_
 refine jq (PJ.xw (.keep (.ex .refl)) (Qv (ht rfl))) ?_
 refine jq (PJ.xw (.keep (.ex .refl)) (pfp (off := 34) (ht rfl))) ?_
 refine jq (PJ.xw (.keep (.ex .refl)) (plb (ht rfl) (.next .here) (.t .a (.t .s (.t .s (.t .s .f)))))) ?_
 obtain ⟨r1, e2, h⟩ := bs h
 refine jq (PJ.xw (.keep (.ex .refl)) (pc tl1 (Ctr.froze (Wt e2)))) ?_
 refine jq (PJ.xw (.keep (.ex .refl)) (QT (T := 31) (R := (sl u8)) (.cons (ht rfl) (.cons (ht rfl) .nil)) rfl (by kernel_rfl) (by kernel_rfl))) ?_
 obtain ⟨r2, e3, h⟩ := bs h
 refine jc tl1 (Xx e3) .nil fun v2 => ?_
 refine jq (PJ.xw (.keep (.keep (.ex .refl))) (pa (ht rfl))) ?_
 refine Qd ?_
 obtain rfl := oi h
 exact Qo fun a w hst => QL hst rfl (.tmp rfl) v2 (fun _ _ h => h) (.cons (.next (.next .here)) <| .cons .here <| .nil)
theorem Wk {G : GP} (hg0 : HG0 G) {p_kind : Int} {r : Jy × Bool} (h : Kf p_kind = some r) : Ctr Tryz.prog G 122 [i64.slot p_kind] [] (fun (_ : Unit) => tup [QC.slot r.1, bl.slot r.2]) (fun (_ : Unit) => []) := by
 unfold Kf at h
 refine Qp Tryz.func122 rfl 14 rfl rfl fun m0 w0 b0 => ?_
 show Run _ _ _ [(0, i64.slot p_kind)] _
 refine rs <| rt <| al (x := (0, 0, 0)) (R := QC) (Qk Qx (Qk Qx Qx)) fun b1 => ?_
 refine jq (pa QU) ?_
 refine Qd <| rs <| rs <| rt <| jm ?_
 refine jq (Q7 (ht rfl) Qe) ?_
 refine jm ?_
 obtain ⟨y1, e2, h⟩ := bs h
 refine Jz (ι := Unit) (Γ' := fun _ => [(0, i64.slot p_kind), (2, val (.pointer (some ⟨b1, 0, none⟩))), (9, bl.slot y1)]) (H' := fun _ => [box b1 194 QC (0, 0, 0)]) 3 ?_ fun J => ?_
 ·intro _
  clear e2
  show Jc _ _ _ [(0, i64.slot p_kind), (2, val (.pointer (some ⟨b1, 0, none⟩))), (9, bl.slot y1)] [box b1 194 QC (0, 0, 0)] _
  refine Qd <| Qn (ht rfl) (fun e3 => ?_) (fun e3 => ?_)
  ·replace h := bt e3 h
   refine rs <| rt <| jq (JZ (R := QC) (Qk Qx (Qk Qx Qx)) (by kernel_rfl) (by kernel_rfl) rfl .nil) ?_
   refine jk (r' := (0, 0, 0)) (ht rfl) (ht rfl) .here .a ?_
   refine jq (pa QU) ?_
   refine Qd ?_
   obtain rfl := oi h
   exact Qo fun a w hst => JV hst rfl (.cons (.cell rfl .here (by kernel_rfl)) <| .cons (.tmp rfl) <| .nil) rfl () (fun _ _ h => h) (.nil)
  ·replace h := bf e3 h
   refine Qm <| rs <| rt <| jm ?_
   obtain ⟨x1, e4, h⟩ := bs h
   refine jq (BE (v := Kl) hg0 (ht rfl) Qh e4 (by kernel_rfl)) ?_
   refine jl ?_
   refine jk (r' := x1) (ht rfl) (ht rfl) .here .a ?_
   refine jq (pa QU) ?_
   refine Qd ?_
   obtain rfl := oi h
   exact Qo fun a w hst => JV hst rfl (.cons (.cell rfl .here (by kernel_rfl)) <| .cons (.tmp rfl) <| .nil) rfl () (fun _ _ h => h) (.nil)
 ·rcases Jl (decide (p_kind < (1 : Int))) with e1 | e1
  ·replace e2 := bt e1 e2
   refine jN e1 ?_
   refine jN e1 ?_
   refine jq (pk1 e1 QU (oi e2)) ?_
   exact Je .k3 .h1 (J ())
  ·replace e2 := bf e1 e2
   refine jz (pm (ht rfl)) e1 ?_
   refine jz (Xt (ht rfl) Qe) e1 ?_
   refine jq (pk2 e1 (ht rfl) (oi e2)) ?_
   exact Je .k3 .h1 (J ())
theorem Qca {G : GP} (hg0 : HG0 G) {p_kind : Int} {r : Int} (h : Vi p_kind = some r) : Ctr Tryz.prog G 121 [i64.slot p_kind] [] (fun (_ : Unit) => i64.slot r) (fun (_ : Unit) => []) := by
 unfold Vi at h
 refine Qp Tryz.func121 rfl 12 rfl rfl fun m0 w0 b0 => ?_
 show Run _ _ _ [(0, i64.slot p_kind)] _
 refine rs <| rt <| jq (pa Qe) ?_
 refine Qd <| rs <| rt <| jm ?_
 obtain ⟨r1, e1, h⟩ := bs h
 refine jq (pc tl1 (Wk hg0 e1)) ?_
 refine jm ?_
 refine jx ?_
 refine jx ?_
 refine al (x := (0, 0, 0)) (R := QC) (Qk Qx (Qk Qx Qx)) fun b1 => ?_
 refine jk (r' := r1.1) (ht rfl) (ht rfl) .here .a ?_
 refine Jd (t := 3) .here (.of_lk rfl) ?_
 refine ja ?_
 refine Qd <| rs <| rt <| jq (pft (ht rfl) (.t .s .f)) ?_
 refine jl ?_
 refine ja ?_
 refine Qd ?_
 obtain rfl := oi h
 exact Qo fun a w hst => QL hst rfl (.tmp rfl) () (fun _ _ h => h) (.nil)
theorem Qbb {G : GP} (hg0 : HG0 G) {p_height : Int} {p_kind : Int} {r : Bool} (h : UT p_height p_kind = some r) : Ctr Tryz.prog G 77 [i64.slot p_height, i64.slot p_kind] [] (fun (_ : Unit) => bl.slot r) (fun (_ : Unit) => []) := by
 unfold UT at h
 refine Qp Tryz.func77 rfl 16 rfl rfl fun m0 w0 b0 => ?_
 show Run _ _ _ [(0, i64.slot p_height), (1, i64.slot p_kind)] _
 refine rs <| rt <| jq (pa QU) ?_
 refine Qd <| rs <| rt <| jm ?_
 refine jq (XF (ht rfl) Qe) ?_
 refine jm ?_
 obtain ⟨y1, e2, h⟩ := bs h
 refine Jz (ι := Unit) (Γ' := fun _ => [(1, i64.slot p_kind), (10, bl.slot y1)]) (H' := fun _ => []) 3 ?_ fun J => ?_
 ·intro _
  clear e2
  show Jc _ _ _ [(1, i64.slot p_kind), (10, bl.slot y1)] [] _
  refine jm ?_
  obtain ⟨y2, e4, h⟩ := bs h
  refine Jz (ι := Unit) (Γ' := fun _ => [(15, bl.slot y2)]) (H' := fun _ => []) 4 ?_ fun J => ?_
  ·intro _
   clear e4
   show Jc _ _ _ [(15, bl.slot y2)] [] _
   refine ja ?_
   refine Qd ?_
   obtain rfl := oi h
   exact Qo fun a w hst => QL hst rfl (.tmp rfl) () (fun _ _ h => h) (.nil)
  ·rcases Jl (y1) with e3 | e3
   ·replace e4 := bt e3 e4
    refine jz (pm (ht rfl)) e3 ?_
    obtain ⟨r1, e5, e4⟩ := bind_some e4
    refine jz (pc tl1 (Qca hg0 e5)) e3 ?_
    refine jz (Xt (ht rfl) Qe) e3 ?_
    refine jq (pk1 e3 (ht rfl) (oi e4)) ?_
    exact Je .k1 (.nil) (J ())
   ·replace e4 := bf e3 e4
    refine jn e3 ?_
    refine jn e3 ?_
    refine jn e3 ?_
    refine jq (pk2 e3 QU (oi e4)) ?_
    exact Je .k1 (.nil) (J ())
 ·rcases Jl (decide ((1 : Int) ≤ p_height)) with e1 | e1
  ·replace e2 := bt e1 e2
   refine jz (pm (ht rfl)) e1 ?_
   refine jz (KS (ht rfl) Qe) e1 ?_
   refine jq (pk1 e1 (ht rfl) (oi e2)) ?_
   exact Je .k2 (.nil) (J ())
  ·replace e2 := bf e1 e2
   refine jn e1 ?_
   refine jn e1 ?_
   refine jq (pk2 e1 QU (oi e2)) ?_
   exact Je .k2 (.nil) (J ())
theorem W9 {G : GP} (hg0 : HG0 G) {p_kind : Int} {r : Int} (h : Ud p_kind = some r) : Ctr Tryz.prog G 78 [i64.slot p_kind] [] (fun (_ : Unit) => i64.slot r) (fun (_ : Unit) => []) := by
 unfold Ud at h
 refine Qp Tryz.func78 rfl 17 rfl rfl fun m0 w0 b0 => ?_
 show Run _ _ _ [(0, i64.slot p_kind)] _
 refine rs <| rt <| jq (pa Qe) ?_
 refine Qd <| rs <| rt <| jm ?_
 obtain ⟨r1, e1, h⟩ := bs h
 refine jq (pc tl1 (Wk hg0 e1)) ?_
 refine jm ?_
 refine jx ?_
 refine jx ?_
 refine al (x := (0, 0, 0)) (R := QC) (Qk Qx (Qk Qx Qx)) fun b1 => ?_
 refine jk (r' := r1.1) (ht rfl) (ht rfl) .here .a ?_
 refine Jd (t := 3) .here (.of_lk rfl) ?_
 refine ja ?_
 refine Qd <| rs <| rs <| rt <| jm ?_
 refine jq (ZI (ht rfl)) ?_
 refine Qd <| Qn (ht rfl) (fun e2 => ?_) (fun e2 => ?_)
 ·replace h := bt e2 h
  refine rs <| rt <| jq (pa Qe) ?_
  refine Qd ?_
  obtain rfl := oi h
  exact Qo fun a w hst => QL hst rfl (.tmp rfl) () (fun _ _ h => h) (.nil)
 ·replace h := bf e2 h
  refine Qm <| rs <| rt <| jq (pft (ht rfl) (.t .s .f)) ?_
  refine jl ?_
  refine jq (QW Qe (ht rfl)) ?_
  refine jq (XJ Qe (ht rfl)) ?_
  refine jq (QW Qe (ht rfl)) ?_
  obtain ⟨x1, e3, h⟩ := bs h
  refine jq (PJ.eqv (pa (ht rfl)) (oi e3)) ?_
  refine Qd ?_
  obtain rfl := oi h
  exact Qo fun a w hst => QL hst rfl (.tmp rfl) () (fun _ _ h => h) (.nil)
theorem qZ {G : GP} (hg0 : HG0 G) {p_height : Int} {p_kind : Int} {r : Int} (h : KL p_height p_kind = some r) : Ctr Tryz.prog G 42 [i64.slot p_height, i64.slot p_kind] [] (fun (_ : Unit) => i64.slot r) (fun (_ : Unit) => []) := by
 unfold KL at h
 refine Qp Tryz.func42 rfl 15 rfl rfl fun m0 w0 b0 => ?_
 show Run _ _ _ [(0, i64.slot p_height), (1, i64.slot p_kind)] _
 refine rs <| rt <| jq (pa Qe) ?_
 refine Qd <| rs <| rs <| rt <| jm ?_
 refine jm ?_
 obtain ⟨r1, e1, h⟩ := bs h
 refine jq (pc tl2 (Qbb hg0 e1)) ?_
 refine jq (ZI (ht rfl)) ?_
 refine Qd <| Qn (ht rfl) (fun e2 => ?_) (fun e2 => ?_)
 ·replace h := bt e2 h
  refine rs <| rt <| jq (pa Qe) ?_
  refine Qd ?_
  obtain rfl := oi h
  exact Qo fun a w hst => QL hst rfl (.tmp rfl) () (fun _ _ h => h) (.nil)
 ·replace h := bf e2 h
  refine Qm <| rs <| rt <| jm ?_
  obtain ⟨r2, e3, h⟩ := bs h
  refine jq (pc tl1 (W9 hg0 e3)) ?_
  refine jq (QW Qe (ht rfl)) ?_
  refine jm ?_
  refine jq (XJ Qe (ht rfl)) ?_
  refine jq (QW (ht rfl) (ht rfl)) ?_
  obtain ⟨x1, e4, h⟩ := bs h
  refine jq (PJ.eqv (pa (ht rfl)) (oi e4)) ?_
  refine Qd ?_
  obtain rfl := oi h
  exact Qo fun a w hst => QL hst rfl (.tmp rfl) () (fun _ _ h => h) (.nil)
theorem Jx {G : GP} {p_x : BitVec 32} {p_k : Int} {r : (BitVec 32)} (h : Jg p_x p_k = some r) : Ctr Tryz.prog G 180 [u32.slot p_x, i64.slot p_k] [] (fun (_ : Unit) => u32.slot r) (fun (_ : Unit) => []) := by
 unfold Jg at h
 refine Qp Tryz.func180 rfl 17 rfl rfl fun m0 w0 b0 => ?_
 show Run _ _ _ [(0, u32.slot p_x), (1, i64.slot p_k)] _
 refine rs <| rt <| jq (pa (QE (x := 0#32) rfl)) ?_
 refine Qd <| rs <| rt <| jm ?_
 refine jq (Jo (k := .u64) (b := 64) rfl rfl (by kernel_rfl) (ht rfl) Qh) ?_
 refine jq (Uk (k := .u64) (b := 64) rfl rfl (ht rfl) (QE (x := 31#64) rfl)) ?_
 refine ja ?_
 refine Qd <| rs <| rt <| jm ?_
 refine jm ?_
 refine jq (QaB (k := .u32) (b := 32) rfl rfl (ht rfl) (ht rfl) JY (Int.natCast_nonneg _)) ?_
 refine jm ?_
 refine jm ?_
 refine jq (Qb3 (k := .u64) (b := 64) rfl rfl (QE (x := 32#64) rfl) (ht rfl)) ?_
 refine jq (Xe (k := .u32) (b := 32) rfl (ht rfl) (ht rfl) JY (Int.natCast_nonneg _)) ?_
 refine jq (Bc (k := .u32) (b := 32) rfl rfl (ht rfl) (ht rfl)) ?_
 obtain ⟨x1, e1, h⟩ := bs h
 refine jq (PJ.eqv (pa (ht rfl)) (oi e1)) ?_
 refine Qd ?_
 obtain rfl := oi h
 exact Qo fun a w hst => QL hst rfl (.tmp rfl) () (fun _ _ h => h) (.nil)
theorem QbP {G : GP} {p_block : List (BitVec 8)} {r : (Vector (BitVec 32) 64)} (h : Kj p_block = some r) : Ctr Tryz.prog G 179 [(sl u8).slot p_block] [] (fun (_ : Unit) => (vec 64 u32).slot r) (fun (_ : Unit) => []) := by
 unfold Kj at h
 refine Qp Tryz.func179 rfl 83 rfl rfl fun m0 w0 b0 => ?_
 show Run _ _ _ [(0, (sl u8).slot p_block)] _
 refine rs <| rt <| al (x := (Vector.replicate 64 (0#32))) (R := (vec 64 u32)) (QA 64 QH) fun b1 => ?_
 refine Qd <| rs <| rt <| al (x := (Vector.replicate 64 (0#32))) (R := (vec 64 u32)) (QA 64 QH) fun b2 => ?_
 refine Qd <| rs <| rs <| rt <| jm ?_
 obtain ⟨x1, e1, h⟩ := bs h
 refine jq (ZH (ht rfl) .no (.yes Qe Qh) e1 (by kernel_rfl)) ?_
 refine jq (QX (sz := 1) (ht rfl) (by kernel_rfl)) ?_
 refine jq (pm Qe) ?_
 refine Qd ?_
 obtain ⟨⟨y3, y4⟩, e7, h⟩ := bs h
 refine Q2 (Γi := fun (i : Unit) (s : Int × (Vector (BitVec 32) 64)) => [(2, val (.pointer (some ⟨b1, 0, none⟩))), (3, val (.pointer (some ⟨b2, 0, none⟩))), (10, (sl u8).slot x1), (11, i64.slot (x1.length : Int)), (12, i64.slot s.1)]) (Hi := fun (i : Unit) (s : Int × (Vector (BitVec 32) 64)) => [box b2 217 (vec 64 u32) s.2, box b1 217 (vec 64 u32) (Vector.replicate 64 (0#32))]) e7 () (fun a w hst => (hst.sub .k5).keep .h2) ?_ ?_
 ·clear h e7
  rintro _ ⟨y1, y2⟩ lr h
  change Xi x1 y1 y2 = some _ at h
  show Run _ _ _ [(2, val (.pointer (some ⟨b1, 0, none⟩))), (3, val (.pointer (some ⟨b2, 0, none⟩))), (10, (sl u8).slot x1), (11, i64.slot (x1.length : Int)), (12, i64.slot y1)] [box b2 217 (vec 64 u32) y2, box b1 217 (vec 64 u32) (Vector.replicate 64 (0#32))]
  unfold Xi at h
  refine rs <| rt <| jq (Q7 (ht rfl) (ht rfl)) ?_
  refine Qd <| rs <| Qn (ht rfl) (fun e2 => ?_) (fun e2 => ?_)
  ·replace h := bt e2 h
   refine Qm <| rs <| QJ <| rs <| rt <| jm ?_
   obtain ⟨x2, e3, h⟩ := bs h
   refine jq (pix (ht rfl) (ht rfl) Qh e3) ?_
   refine jl ?_
   refine ja ?_
   refine ja ?_
   refine Qd <| rt <| jm ?_
   refine jq (B3 (ht rfl) Qe (by decide)) ?_
   refine jm ?_
   refine jq (B3 (ht rfl) Qe (by decide)) ?_
   obtain ⟨x3, e4, h⟩ := bs h
   refine jq (Qq (n := 64) (sz := 1) (ht rfl) (ht rfl) Qh (QF e4).1 (ZT e4) (by kernel_rfl)) ?_
   refine jq (PJ.eqv (plb (ht rfl) .here (.t .a (Path.atI 64 u32 ((w64 (Int.tdiv y1 (4 : Int))).toNat) (QF e4).2.1))) (ZW e4 (QF e4).2.1)) ?_
   refine jq (QaB (k := .u32) (b := 32) rfl rfl (ht rfl) (QE (x := 8#64) rfl) JY (Int.natCast_nonneg _)) ?_
   refine jm ?_
   refine jq (Zi (k := .u32) (b := 32) rfl rfl (by kernel_rfl) (ht rfl)) ?_
   refine jq (Bc (k := .u32) (b := 32) rfl rfl (ht rfl) (ht rfl)) ?_
   obtain ⟨e5, h⟩ := QS h
   refine jq (Qq (n := 64) (sz := 1) (ht rfl) (ht rfl) Qh e5.1 e5.2 (by kernel_rfl)) ?_
   obtain ⟨x4, e6, h⟩ := bs h
   refine ZF (r' := x4) (ht rfl) (ht rfl) .here (.t .a (Path.atI 64 u32 ((w64 (Int.tdiv y1 (4 : Int))).toNat) (Vl e5))) (by kernel_rfl) (oi e6) ?_
   refine Qd <| Qs <| rt <| jq (QW (ht rfl) Qe) ?_
   refine jm ?_
   refine Qd ?_
   obtain rfl := oi h
   exact QZ () .k5 .h2
  ·replace h := bf e2 h
   obtain rfl := oi h
   exact Jf () .k5 .h2
 ·rintro _
  show Run _ _ _ [(2, val (.pointer (some ⟨b1, 0, none⟩))), (3, val (.pointer (some ⟨b2, 0, none⟩))), (10, (sl u8).slot x1), (11, i64.slot (x1.length : Int)), (12, i64.slot y3)] [box b2 217 (vec 64 u32) y4, box b1 217 (vec 64 u32) (Vector.replicate 64 (0#32))]
  refine Q9 (Γ' := [(2, val (.pointer (some ⟨b1, 0, none⟩))), (3, val (.pointer (some ⟨b2, 0, none⟩)))]) (H' := [box b2 217 (vec 64 u32) y4, box b1 217 (vec 64 u32) (Vector.replicate 64 (0#32))]) .k2 .h2 ?_
  refine rs <| rs <| rt <| jq (pa Qe) ?_
  refine Qd ?_
  obtain ⟨⟨y7, y8⟩, e23, h⟩ := bs h
  refine Q2 (Γi := fun (i : Unit) (s : Int × (Vector (BitVec 32) 64)) => [(2, val (.pointer (some ⟨b1, 0, none⟩))), (3, val (.pointer (some ⟨b2, 0, none⟩))), (6, i64.slot s.1)]) (Hi := fun (i : Unit) (s : Int × (Vector (BitVec 32) 64)) => [box b2 217 (vec 64 u32) s.2, box b1 217 (vec 64 u32) (Vector.replicate 64 (0#32))]) e23 () (fun a w hst => (hst.sub .k3).keep .h2) ?_ ?_
  ·clear h e23
   rintro _ ⟨y5, y6⟩ lr h
   change Xf y5 y6 = some _ at h
   show Run _ _ _ [(2, val (.pointer (some ⟨b1, 0, none⟩))), (3, val (.pointer (some ⟨b2, 0, none⟩))), (6, i64.slot y5)] [box b2 217 (vec 64 u32) y6, box b1 217 (vec 64 u32) (Vector.replicate 64 (0#32))]
   unfold Xf at h
   refine rs <| rs <| rt <| jm ?_
   refine jq (Q7 (ht rfl) Qe) ?_
   refine Qd <| Qn (ht rfl) (fun e8 => ?_) (fun e8 => ?_)
   ·replace h := bt e8 h
    refine Qm <| rs <| QJ <| rs ?_
    obtain ⟨x5, e9, h⟩ := bs h
    obtain ⟨r1, e10, h⟩ := bs h
    obtain ⟨x6, e11, h⟩ := bs h
    obtain ⟨r2, e12, h⟩ := bs h
    obtain ⟨x7, e13, h⟩ := bs h
    refine rd (n := 16) (.m rfl <| .p (JS (ht rfl) Qe) <| .p (Qq (n := 64) (sz := 1) (ht rfl) (ht rfl) Qh (QF e9).1 (ZT e9) (by kernel_rfl)) <| .p (PJ.eqv (plb (ht rfl) .here (.t .a (Path.atI 64 u32 ((w64 (y5 - (15 : Int))).toNat) (QF e9).2.1))) (ZW e9 (QF e9).2.1)) <| .p (pc (hc (ht rfl) <| hc Qe <| Q3) (Jx e10)) <| .m rfl <| .p (JS (ht rfl) Qe) <| .p (Qq (n := 64) (sz := 1) (ht rfl) (ht rfl) Qh (QF e11).1 (ZT e11) (by kernel_rfl)) <| .p (PJ.eqv (plb (ht rfl) .here (.t .a (Path.atI 64 u32 ((w64 (y5 - (15 : Int))).toNat) (QF e11).2.1))) (ZW e11 (QF e11).2.1)) <| .p (pc (hc (ht rfl) <| hc Qe <| Q3) (Jx e12)) <| .p (Xu (k := .u32) (b := 32) rfl rfl (ht rfl) (ht rfl)) <| .m rfl <| .p (JS (ht rfl) Qe) <| .p (Qq (n := 64) (sz := 1) (ht rfl) (ht rfl) Qh (QF e13).1 (ZT e13) (by kernel_rfl)) <| .p (PJ.eqv (plb (ht rfl) .here (.t .a (Path.atI 64 u32 ((w64 (y5 - (15 : Int))).toNat) (QF e13).2.1))) (ZW e13 (QF e13).2.1)) <| .p (Xe (k := .u32) (b := 32) rfl (ht rfl) (QE (x := 3#64) rfl) JY (Int.natCast_nonneg _)) <| .nil) (Je (Γ' := [(2, val (.pointer (some ⟨b1, 0, none⟩))), (3, val (.pointer (some ⟨b2, 0, none⟩))), (6, i64.slot y5), (43, u32.slot (r1 ^^^ r2)), (48, u32.slot (x7 >>> 3))]) (H' := [box b2 217 (vec 64 u32) y6, box b1 217 (vec 64 u32) (Vector.replicate 64 (0#32))]) .k5 .h2 ?_)
    refine jq (Xu (k := .u32) (b := 32) rfl rfl (ht rfl) (ht rfl)) ?_
    refine ja ?_
    refine Qd <| rs ?_
    obtain ⟨x8, e14, h⟩ := bs h
    obtain ⟨r3, e15, h⟩ := bs h
    obtain ⟨x9, e16, h⟩ := bs h
    obtain ⟨r4, e17, h⟩ := bs h
    obtain ⟨x10, e18, h⟩ := bs h
    refine rd (n := 16) (.m rfl <| .p (JS (ht rfl) Qe) <| .p (Qq (n := 64) (sz := 1) (ht rfl) (ht rfl) Qh (QF e14).1 (ZT e14) (by kernel_rfl)) <| .p (PJ.eqv (plb (ht rfl) .here (.t .a (Path.atI 64 u32 ((w64 (y5 - (2 : Int))).toNat) (QF e14).2.1))) (ZW e14 (QF e14).2.1)) <| .p (pc (hc (ht rfl) <| hc Qe <| Q3) (Jx e15)) <| .m rfl <| .p (JS (ht rfl) Qe) <| .p (Qq (n := 64) (sz := 1) (ht rfl) (ht rfl) Qh (QF e16).1 (ZT e16) (by kernel_rfl)) <| .p (PJ.eqv (plb (ht rfl) .here (.t .a (Path.atI 64 u32 ((w64 (y5 - (2 : Int))).toNat) (QF e16).2.1))) (ZW e16 (QF e16).2.1)) <| .p (pc (hc (ht rfl) <| hc Qe <| Q3) (Jx e17)) <| .p (Xu (k := .u32) (b := 32) rfl rfl (ht rfl) (ht rfl)) <| .m rfl <| .p (JS (ht rfl) Qe) <| .p (Qq (n := 64) (sz := 1) (ht rfl) (ht rfl) Qh (QF e18).1 (ZT e18) (by kernel_rfl)) <| .p (PJ.eqv (plb (ht rfl) .here (.t .a (Path.atI 64 u32 ((w64 (y5 - (2 : Int))).toNat) (QF e18).2.1))) (ZW e18 (QF e18).2.1)) <| .p (Xe (k := .u32) (b := 32) rfl (ht rfl) (QE (x := 10#64) rfl) JY (Int.natCast_nonneg _)) <| .nil) (Je (Γ' := [(2, val (.pointer (some ⟨b1, 0, none⟩))), (3, val (.pointer (some ⟨b2, 0, none⟩))), (6, i64.slot y5), (7, u32.slot ((r1 ^^^ r2) ^^^ (x7 >>> 3))), (60, u32.slot (r3 ^^^ r4)), (65, u32.slot (x10 >>> 10))]) (H' := [box b2 217 (vec 64 u32) y6, box b1 217 (vec 64 u32) (Vector.replicate 64 (0#32))]) .k6 .h2 ?_)
    refine jq (Xu (k := .u32) (b := 32) rfl rfl (ht rfl) (ht rfl)) ?_
    refine ja ?_
    refine Qd ?_
    obtain ⟨x11, e19, h⟩ := bs h
    obtain ⟨x12, e20, h⟩ := bs h
    refine rd (n := 14) (.m rfl <| .m rfl <| .p (JS (ht rfl) Qe) <| .p (Qq (n := 64) (sz := 1) (ht rfl) (ht rfl) Qh (QF e19).1 (ZT e19) (by kernel_rfl)) <| .p (PJ.eqv (plb (ht rfl) .here (.t .a (Path.atI 64 u32 ((w64 (y5 - (16 : Int))).toNat) (QF e19).2.1))) (ZW e19 (QF e19).2.1)) <| .m rfl <| .p (Yx (k := .u32) (b := 32) rfl rfl (ht rfl) (ht rfl)) <| .m rfl <| .p (JS (ht rfl) Qe) <| .p (Qq (n := 64) (sz := 1) (ht rfl) (ht rfl) Qh (QF e20).1 (ZT e20) (by kernel_rfl)) <| .p (PJ.eqv (plb (ht rfl) .here (.t .a (Path.atI 64 u32 ((w64 (y5 - (7 : Int))).toNat) (QF e20).2.1))) (ZW e20 (QF e20).2.1)) <| .p (Yx (k := .u32) (b := 32) rfl rfl (ht rfl) (ht rfl)) <| .m rfl <| .p (Yx (k := .u32) (b := 32) rfl rfl (ht rfl) (ht rfl)) <| .nil) (Je (Γ' := [(2, val (.pointer (some ⟨b1, 0, none⟩))), (3, val (.pointer (some ⟨b2, 0, none⟩))), (6, i64.slot y5), (67, i64.slot y5), (80, u32.slot (((x11 + ((r1 ^^^ r2) ^^^ (x7 >>> 3))) + x12) + ((r3 ^^^ r4) ^^^ (x10 >>> 10))))]) (H' := [box b2 217 (vec 64 u32) y6, box b1 217 (vec 64 u32) (Vector.replicate 64 (0#32))]) .k5 .h2 ?_)
    obtain ⟨e21, h⟩ := QS h
    refine jq (Qq (n := 64) (sz := 1) (ht rfl) (ht rfl) Qh e21.1 e21.2 (by kernel_rfl)) ?_
    obtain ⟨x13, e22, h⟩ := bs h
    refine ZF (r' := x13) (ht rfl) (ht rfl) .here (.t .a (Path.atI 64 u32 y5.toNat (Vl e21))) (by kernel_rfl) (oi e22) ?_
    refine Qd <| Qs <| rt <| jm ?_
    refine jq (QW (ht rfl) Qe) ?_
    refine ja ?_
    refine Qd ?_
    obtain rfl := oi h
    exact QZ () .k3 .h2
   ·replace h := bf e8 h
    obtain rfl := oi h
    exact Jf () .k3 .h2
  ·rintro _
   show Run _ _ _ [(2, val (.pointer (some ⟨b1, 0, none⟩))), (3, val (.pointer (some ⟨b2, 0, none⟩))), (6, i64.slot y7)] [box b2 217 (vec 64 u32) y8, box b1 217 (vec 64 u32) (Vector.replicate 64 (0#32))]
   refine Q9 (Γ' := [(2, val (.pointer (some ⟨b1, 0, none⟩))), (3, val (.pointer (some ⟨b2, 0, none⟩)))]) (H' := [box b2 217 (vec 64 u32) y8, box b1 217 (vec 64 u32) (Vector.replicate 64 (0#32))]) .k2 .h2 ?_
   refine rs <| rt <| jq (plb (ht rfl) .here .a) ?_
   refine jk (r' := y8) (ht rfl) (ht rfl) (.next .here) .a ?_
   refine Qd ?_
   obtain rfl := oi h
   exact Qo fun a w hst => QL hst rfl (.cell rfl .here (by kernel_rfl)) () (fun _ _ h => h) (.nil)
theorem Kv {G : GP} (hg2 : HG2 G) {p_s : Q6} {p_b : List (BitVec 8)} {r : Q6} (h : YN p_s p_b = some r) : Ctr Tryz.prog G 160 [QD.slot p_s, (sl u8).slot p_b] [] (fun (_ : Unit) => QD.slot r) (fun (_ : Unit) => []) := by
 unfold YN at h
 refine Qp Tryz.func160 rfl 115 rfl rfl fun m0 w0 b0 => ?_
 show Run _ _ _ [(0, QD.slot p_s), (1, (sl u8).slot p_b)] _
 refine rs <| rt <| Bq (ht rfl) rfl fun b1 => ?_
 refine al (x := (Vector.replicate 8 (0#32))) (R := QD) (QA 8 QH) fun b2 => ?_
 refine Qd <| rs <| rt <| jm ?_
 obtain ⟨r1, e1, h⟩ := bs h
 refine jq (pc tl1 (QbP e1)) ?_
 refine al (x := (Vector.replicate 64 (0#32))) (R := (vec 64 u32)) (QA 64 QH) fun b3 => ?_
 refine jk (r' := r1) (ht rfl) (ht rfl) .here .a ?_
 refine Jd (t := 5) .here (.of_lk rfl) ?_
 refine Qd <| rs <| rt <| jq (plb (ht rfl) (.next .here) .a) ?_
 refine al (x := (Vector.replicate 8 (0#32))) (R := QD) (QA 8 QH) fun b4 => ?_
 refine jk (r' := p_s) (ht rfl) (ht rfl) .here .a ?_
 refine Qd <| rs <| rs <| rt <| jq (pm Qe) ?_
 refine Qd ?_
 obtain ⟨⟨y3, y4⟩, e14, h⟩ := bs h
 refine Q2 (Γi := fun (i : Unit) (s : Int × Q6) => [(2, val (.pointer (some ⟨b1, 0, none⟩))), (4, val (.pointer (some ⟨b2, 0, none⟩))), (5, Qt (vec 64 u32) r1), (6, val (.pointer (some ⟨b4, 0, none⟩))), (16, i64.slot s.1)]) (Hi := fun (i : Unit) (s : Int × Q6) => [box b4 229 QD s.2, box b2 229 QD (Vector.replicate 8 (0#32)), box b1 229 QD p_s]) e14 () (fun a w hst => (hst.sub .k5).keep .h3) ?_ ?_
 ·clear h e14
  rintro _ ⟨y1, y2⟩ lr h
  change Zd r1 y1 y2 = some _ at h
  show Run _ _ _ [(2, val (.pointer (some ⟨b1, 0, none⟩))), (4, val (.pointer (some ⟨b2, 0, none⟩))), (5, Qt (vec 64 u32) r1), (6, val (.pointer (some ⟨b4, 0, none⟩))), (16, i64.slot y1)] [box b4 229 QD y2, box b2 229 QD (Vector.replicate 8 (0#32)), box b1 229 QD p_s]
  unfold Zd at h
  refine rs <| rt <| jq (Q7 (ht rfl) Qe) ?_
  refine Qd <| rs <| Qn (ht rfl) (fun e2 => ?_) (fun e2 => ?_)
  ·replace h := bt e2 h
   refine Qm <| rs <| QJ <| rs <| rt <| jm ?_
   refine ja ?_
   refine Qd <| rs ?_
   obtain ⟨r2, e3, h⟩ := bs h
   obtain ⟨r3, e4, h⟩ := bs h
   obtain ⟨r4, e5, h⟩ := bs h
   refine rd (n := 10) (.p (Qq (n := 8) (sz := 1) (ht rfl) Qe Qh (by decide) (by decide) (by kernel_rfl)) <| .p (plb (ht rfl) .here (.t .a (Path.at 8 u32 4 (by decide)))) <| .p (pc (hc (ht rfl) <| hc Qe <| Q3) (Jx e3)) <| .p (Qq (n := 8) (sz := 1) (ht rfl) Qe Qh (by decide) (by decide) (by kernel_rfl)) <| .p (plb (ht rfl) .here (.t .a (Path.at 8 u32 4 (by decide)))) <| .p (pc (hc (ht rfl) <| hc Qe <| Q3) (Jx e4)) <| .p (Xu (k := .u32) (b := 32) rfl rfl (ht rfl) (ht rfl)) <| .p (Qq (n := 8) (sz := 1) (ht rfl) Qe Qh (by decide) (by decide) (by kernel_rfl)) <| .p (plb (ht rfl) .here (.t .a (Path.at 8 u32 4 (by decide)))) <| .p (pc (hc (ht rfl) <| hc Qe <| Q3) (Jx e5)) <| .nil) (Je (Γ' := [(2, val (.pointer (some ⟨b1, 0, none⟩))), (4, val (.pointer (some ⟨b2, 0, none⟩))), (5, Qt (vec 64 u32) r1), (6, val (.pointer (some ⟨b4, 0, none⟩))), (7, i64.slot y1), (16, i64.slot y1), (25, u32.slot (r2 ^^^ r3)), (28, u32.slot r4)]) (H' := [box b4 229 QD y2, box b2 229 QD (Vector.replicate 8 (0#32)), box b1 229 QD p_s]) .k8 .h3 ?_)
   refine jq (Xu (k := .u32) (b := 32) rfl rfl (ht rfl) (ht rfl)) ?_
   refine ja ?_
   refine Qd <| rs ?_
   obtain ⟨x1, e6, h⟩ := bs h
   obtain ⟨x2, e7, h⟩ := bs h
   refine rd (n := 23) (.p (Qq (n := 8) (sz := 1) (ht rfl) Qe Qh (by decide) (by decide) (by kernel_rfl)) <| .p (plb (ht rfl) .here (.t .a (Path.at 8 u32 7 (by decide)))) <| .m rfl <| .p (Yx (k := .u32) (b := 32) rfl rfl (ht rfl) (ht rfl)) <| .p (Qq (n := 8) (sz := 1) (ht rfl) Qe Qh (by decide) (by decide) (by kernel_rfl)) <| .p (plb (ht rfl) .here (.t .a (Path.at 8 u32 6 (by decide)))) <| .p (Qq (n := 8) (sz := 1) (ht rfl) Qe Qh (by decide) (by decide) (by kernel_rfl)) <| .p (plb (ht rfl) .here (.t .a (Path.at 8 u32 4 (by decide)))) <| .p (Qq (n := 8) (sz := 1) (ht rfl) Qe Qh (by decide) (by decide) (by kernel_rfl)) <| .p (plb (ht rfl) .here (.t .a (Path.at 8 u32 5 (by decide)))) <| .p (Qq (n := 8) (sz := 1) (ht rfl) Qe Qh (by decide) (by decide) (by kernel_rfl)) <| .p (plb (ht rfl) .here (.t .a (Path.at 8 u32 6 (by decide)))) <| .p (Xu (k := .u32) (b := 32) rfl rfl (ht rfl) (ht rfl)) <| .p (Uk (k := .u32) (b := 32) rfl rfl (ht rfl) (ht rfl)) <| .p (Xu (k := .u32) (b := 32) rfl rfl (ht rfl) (ht rfl)) <| .p (Yx (k := .u32) (b := 32) rfl rfl (ht rfl) (ht rfl)) <| .m rfl <| .p (BE (v := YY) hg2 (ht rfl) Qh e6 (by kernel_rfl)) <| .p (plt (ht rfl)) <| .p (Yx (k := .u32) (b := 32) rfl rfl (ht rfl) (ht rfl)) <| .m rfl <| .p (W3 (ht rfl) (ht rfl) Qh e7 (by kernel_rfl)) <| .p (plt (ht rfl)) <| .nil) (Je (Γ' := [(2, val (.pointer (some ⟨b1, 0, none⟩))), (4, val (.pointer (some ⟨b2, 0, none⟩))), (5, Qt (vec 64 u32) r1), (6, val (.pointer (some ⟨b4, 0, none⟩))), (16, i64.slot y1), (49, u32.slot ((((y2[7]) + ((r2 ^^^ r3) ^^^ r4)) + ((y2[6]) ^^^ ((y2[4]) &&& ((y2[5]) ^^^ (y2[6]))))) + x1)), (52, u32.slot x2)]) (H' := [box b4 229 QD y2, box b2 229 QD (Vector.replicate 8 (0#32)), box b1 229 QD p_s]) .k7 .h3 ?_)
   refine jq (Yx (k := .u32) (b := 32) rfl rfl (ht rfl) (ht rfl)) ?_
   obtain ⟨x3, e8, h⟩ := bs h
   refine jq (PJ.eqv (pa (ht rfl)) (oi e8)) ?_
   refine Qd <| rs ?_
   obtain ⟨r5, e9, h⟩ := bs h
   obtain ⟨r6, e10, h⟩ := bs h
   obtain ⟨r7, e11, h⟩ := bs h
   refine rd (n := 10) (.p (Qq (n := 8) (sz := 1) (ht rfl) Qe Qh (by decide) (by decide) (by kernel_rfl)) <| .p (plb (ht rfl) .here (.t .a (Path.at 8 u32 0 (by decide)))) <| .p (pc (hc (ht rfl) <| hc Qe <| Q3) (Jx e9)) <| .p (Qq (n := 8) (sz := 1) (ht rfl) Qe Qh (by decide) (by decide) (by kernel_rfl)) <| .p (plb (ht rfl) .here (.t .a (Path.at 8 u32 0 (by decide)))) <| .p (pc (hc (ht rfl) <| hc Qe <| Q3) (Jx e10)) <| .p (Xu (k := .u32) (b := 32) rfl rfl (ht rfl) (ht rfl)) <| .p (Qq (n := 8) (sz := 1) (ht rfl) Qe Qh (by decide) (by decide) (by kernel_rfl)) <| .p (plb (ht rfl) .here (.t .a (Path.at 8 u32 0 (by decide)))) <| .p (pc (hc (ht rfl) <| hc Qe <| Q3) (Jx e11)) <| .nil) (Je (Γ' := [(2, val (.pointer (some ⟨b1, 0, none⟩))), (4, val (.pointer (some ⟨b2, 0, none⟩))), (5, Qt (vec 64 u32) r1), (6, val (.pointer (some ⟨b4, 0, none⟩))), (9, u32.slot x3), (16, i64.slot y1), (60, u32.slot (r5 ^^^ r6)), (63, u32.slot r7)]) (H' := [box b4 229 QD y2, box b2 229 QD (Vector.replicate 8 (0#32)), box b1 229 QD p_s]) .k8 .h3 ?_)
   refine jq (Xu (k := .u32) (b := 32) rfl rfl (ht rfl) (ht rfl)) ?_
   refine ja ?_
   refine Qd <| rs <| rt <| jm ?_
   refine jq (Qq (n := 8) (sz := 1) (ht rfl) Qe Qh (by decide) (by decide) (by kernel_rfl)) ?_
   refine jq (plb (ht rfl) .here (.t .a (Path.at 8 u32 0 (by decide)))) ?_
   refine jq (Qq (n := 8) (sz := 1) (ht rfl) Qe Qh (by decide) (by decide) (by kernel_rfl)) ?_
   refine jq (plb (ht rfl) .here (.t .a (Path.at 8 u32 1 (by decide)))) ?_
   refine jq (Uk (k := .u32) (b := 32) rfl rfl (ht rfl) (ht rfl)) ?_
   refine jq (Qq (n := 8) (sz := 1) (ht rfl) Qe Qh (by decide) (by decide) (by kernel_rfl)) ?_
   refine jq (plb (ht rfl) .here (.t .a (Path.at 8 u32 2 (by decide)))) ?_
   refine jq (Qq (n := 8) (sz := 1) (ht rfl) Qe Qh (by decide) (by decide) (by kernel_rfl)) ?_
   refine jq (plb (ht rfl) .here (.t .a (Path.at 8 u32 0 (by decide)))) ?_
   refine jq (Qq (n := 8) (sz := 1) (ht rfl) Qe Qh (by decide) (by decide) (by kernel_rfl)) ?_
   refine jq (plb (ht rfl) .here (.t .a (Path.at 8 u32 1 (by decide)))) ?_
   refine jq (Bc (k := .u32) (b := 32) rfl rfl (ht rfl) (ht rfl)) ?_
   refine jq (Uk (k := .u32) (b := 32) rfl rfl (ht rfl) (ht rfl)) ?_
   refine jq (Bc (k := .u32) (b := 32) rfl rfl (ht rfl) (ht rfl)) ?_
   refine jq (Yx (k := .u32) (b := 32) rfl rfl (ht rfl) (ht rfl)) ?_
   obtain ⟨x4, e12, h⟩ := bs h
   refine jq (PJ.eqv (pa (ht rfl)) (oi e12)) ?_
   refine Qd <| rt <| jm ?_
   refine jm ?_
   refine jq (Yx (k := .u32) (b := 32) rfl rfl (ht rfl) (ht rfl)) ?_
   refine jq (Qq (n := 8) (sz := 1) (ht rfl) Qe Qh (by decide) (by decide) (by kernel_rfl)) ?_
   refine jq (plb (ht rfl) .here (.t .a (Path.at 8 u32 0 (by decide)))) ?_
   refine jq (Qq (n := 8) (sz := 1) (ht rfl) Qe Qh (by decide) (by decide) (by kernel_rfl)) ?_
   refine jq (plb (ht rfl) .here (.t .a (Path.at 8 u32 1 (by decide)))) ?_
   refine jq (Qq (n := 8) (sz := 1) (ht rfl) Qe Qh (by decide) (by decide) (by kernel_rfl)) ?_
   refine jq (plb (ht rfl) .here (.t .a (Path.at 8 u32 2 (by decide)))) ?_
   refine jq (Qq (n := 8) (sz := 1) (ht rfl) Qe Qh (by decide) (by decide) (by kernel_rfl)) ?_
   refine jq (plb (ht rfl) .here (.t .a (Path.at 8 u32 3 (by decide)))) ?_
   refine jm ?_
   refine jq (Yx (k := .u32) (b := 32) rfl rfl (ht rfl) (ht rfl)) ?_
   refine jq (Qq (n := 8) (sz := 1) (ht rfl) Qe Qh (by decide) (by decide) (by kernel_rfl)) ?_
   refine jq (plb (ht rfl) .here (.t .a (Path.at 8 u32 4 (by decide)))) ?_
   refine jq (Qq (n := 8) (sz := 1) (ht rfl) Qe Qh (by decide) (by decide) (by kernel_rfl)) ?_
   refine jq (plb (ht rfl) .here (.t .a (Path.at 8 u32 5 (by decide)))) ?_
   refine jq (Qq (n := 8) (sz := 1) (ht rfl) Qe Qh (by decide) (by decide) (by kernel_rfl)) ?_
   refine jq (plb (ht rfl) .here (.t .a (Path.at 8 u32 6 (by decide)))) ?_
   obtain ⟨x5, e13, h⟩ := bs h
   refine jq (PJ.eqv (Ur (z0 := 0#32) (QA 8 QH) (by kernel_rfl) (.cons (ht rfl) (.cons (ht rfl) (.cons (ht rfl) (.cons (ht rfl) (.cons (ht rfl) (.cons (ht rfl) (.cons (ht rfl) (.cons (ht rfl) .nil)))))))) (by kernel_rfl) rfl) (oi e13)) ?_
   refine jk (r' := x5) (ht rfl) (ht rfl) .here .a ?_
   refine Qd <| Qs <| rt <| jq (QW (ht rfl) Qe) ?_
   refine jm ?_
   refine Qd ?_
   obtain rfl := oi h
   exact QZ () .k5 .h3
  ·replace h := bf e2 h
   obtain rfl := oi h
   exact Jf () .k5 .h3
 ·rintro _
  show Run _ _ _ [(2, val (.pointer (some ⟨b1, 0, none⟩))), (4, val (.pointer (some ⟨b2, 0, none⟩))), (5, Qt (vec 64 u32) r1), (6, val (.pointer (some ⟨b4, 0, none⟩))), (16, i64.slot y3)] [box b4 229 QD y4, box b2 229 QD (Vector.replicate 8 (0#32)), box b1 229 QD p_s]
  refine Q9 (Γ' := [(2, val (.pointer (some ⟨b1, 0, none⟩))), (4, val (.pointer (some ⟨b2, 0, none⟩))), (6, val (.pointer (some ⟨b4, 0, none⟩)))]) (H' := [box b4 229 QD y4, box b2 229 QD (Vector.replicate 8 (0#32)), box b1 229 QD p_s]) .k3 .h3 ?_
  refine rs <| rs <| rt <| jq (pm Qe) ?_
  refine Qd ?_
  obtain ⟨⟨y7, y8⟩, e19, h⟩ := bs h
  refine Q2 (Γi := fun (i : Unit) (s : Int × Q6) => [(2, val (.pointer (some ⟨b1, 0, none⟩))), (4, val (.pointer (some ⟨b2, 0, none⟩))), (6, val (.pointer (some ⟨b4, 0, none⟩))), (102, i64.slot s.1)]) (Hi := fun (i : Unit) (s : Int × Q6) => [box b4 229 QD y4, box b2 229 QD (Vector.replicate 8 (0#32)), box b1 229 QD s.2]) e19 () (fun a w hst => (hst.sub .k4).keep .h3) ?_ ?_
  ·clear h e19
   rintro _ ⟨y5, y6⟩ lr h
   change XZ y4 y5 y6 = some _ at h
   show Run _ _ _ [(2, val (.pointer (some ⟨b1, 0, none⟩))), (4, val (.pointer (some ⟨b2, 0, none⟩))), (6, val (.pointer (some ⟨b4, 0, none⟩))), (102, i64.slot y5)] [box b4 229 QD y4, box b2 229 QD (Vector.replicate 8 (0#32)), box b1 229 QD y6]
   unfold XZ at h
   refine rs <| rt <| jq (Q7 (ht rfl) Qe) ?_
   refine Qd <| rs <| Qn (ht rfl) (fun e15 => ?_) (fun e15 => ?_)
   ·replace h := bt e15 h
    refine Qm <| rs <| QJ <| rs <| rt <| jm ?_
    refine ja ?_
    refine Qd ?_
    obtain ⟨x6, e16, h⟩ := bs h
    obtain ⟨x7, e17, h⟩ := bs h
    refine rd (n := 6) (.m rfl <| .p (Qq (n := 8) (sz := 1) (ht rfl) (ht rfl) Qh (QF e16).1 (ZT e16) (by kernel_rfl)) <| .p (PJ.eqv (plb (ht rfl) (.next (.next .here)) (.t .a (Path.atI 8 u32 y5.toNat (QF e16).2.1))) (ZW e16 (QF e16).2.1)) <| .m rfl <| .p (Qq (n := 8) (sz := 1) (ht rfl) (ht rfl) Qh (QF e17).1 (ZT e17) (by kernel_rfl)) <| .p (PJ.eqv (plb (ht rfl) .here (.t .a (Path.atI 8 u32 y5.toNat (QF e17).2.1))) (ZW e17 (QF e17).2.1)) <| .nil) (Je (Γ' := [(2, val (.pointer (some ⟨b1, 0, none⟩))), (4, val (.pointer (some ⟨b2, 0, none⟩))), (6, val (.pointer (some ⟨b4, 0, none⟩))), (102, i64.slot y5), (105, i64.slot y5), (107, u32.slot x6), (110, u32.slot x7)]) (H' := [box b4 229 QD y4, box b2 229 QD (Vector.replicate 8 (0#32)), box b1 229 QD y6]) .k7 .h3 ?_)
    refine jq (Yx (k := .u32) (b := 32) rfl rfl (ht rfl) (ht rfl)) ?_
    obtain ⟨e18, h⟩ := QS h
    refine jq (Qq (n := 8) (sz := 1) (ht rfl) (ht rfl) Qh e18.1 e18.2 (by kernel_rfl)) ?_
    refine jk (r' := (y6.setIfInBounds y5.toNat (x6 + x7))) (ht rfl) (ht rfl) (.next (.next .here)) (.t .a (Path.atI 8 u32 y5.toNat (Vl e18))) ?_
    refine Qd <| Qs <| rt <| jq (QW (ht rfl) Qe) ?_
    refine jm ?_
    refine Qd ?_
    obtain rfl := oi h
    exact QZ () .k4 (.cons (.next .here) <| .cons (.next .here) <| .cons .here <| .nil)
   ·replace h := bf e15 h
    obtain rfl := oi h
    exact Jf () .k4 .h3
  ·rintro _
   show Run _ _ _ [(2, val (.pointer (some ⟨b1, 0, none⟩))), (4, val (.pointer (some ⟨b2, 0, none⟩))), (6, val (.pointer (some ⟨b4, 0, none⟩))), (102, i64.slot y7)] [box b4 229 QD y4, box b2 229 QD (Vector.replicate 8 (0#32)), box b1 229 QD y8]
   refine Q9 (Γ' := [(2, val (.pointer (some ⟨b1, 0, none⟩))), (4, val (.pointer (some ⟨b2, 0, none⟩)))]) (H' := [box b2 229 QD (Vector.replicate 8 (0#32)), box b1 229 QD y8]) .k2 (.cons (.next .here) <| .cons (.next .here) <| .nil) ?_
   refine rs <| rt <| jq (plb (ht rfl) (.next .here) .a) ?_
   refine jk (r' := y8) (ht rfl) (ht rfl) .here .a ?_
   refine Qd ?_
   obtain rfl := oi h
   exact Qo fun a w hst => QL hst rfl (.cell rfl .here (by kernel_rfl)) () (fun _ _ h => h) (.nil)
theorem We {G : GP} (hg1 : HG1 G) (hg2 : HG2 G) {p_b : List (BitVec 8)} {r : Qa} (h : KW p_b = some r) : Ctr Tryz.prog G 123 [(sl u8).slot p_b] [] (fun (_ : Unit) => Qb.slot r) (fun (_ : Unit) => []) := by
 unfold KW at h
 refine Qp Tryz.func123 rfl 71 rfl rfl fun m0 w0 b0 => ?_
 show Run _ _ _ [(0, (sl u8).slot p_b)] _
 refine rs <| rt <| al (x := (Vector.replicate 32 (0#8))) (R := Qb) (QA 32 QH) fun b1 => ?_
 refine Qd <| rs <| rt <| jq (Qf2 (y := Zr) hg1 (by kernel_rfl)) ?_
 refine al (x := (Vector.replicate 8 (0#32))) (R := QD) (QA 8 QH) fun b2 => ?_
 refine jk (r' := Zr) (ht rfl) (ht rfl) .here .a ?_
 refine Qd <| rs <| rt <| jm ?_
 refine jq (QX (sz := 1) (ht rfl) (by kernel_rfl)) ?_
 refine jq (Jo (k := .u64) (b := 64) rfl rfl (by kernel_rfl) (ht rfl) Qh) ?_
 refine ja ?_
 refine Qd <| rs ?_
 obtain ⟨⟨y3, y4⟩, e4, h⟩ := bs h
 refine Q2 (Γi := fun (i : Unit) (s : (List (BitVec 8)) × Q6) => [(0, (sl u8).slot s.1), (2, val (.pointer (some ⟨b1, 0, none⟩))), (3, val (.pointer (some ⟨b2, 0, none⟩))), (4, u64.slot (BitVec.ofInt 64 (p_b.length : Int)))]) (Hi := fun (i : Unit) (s : (List (BitVec 8)) × Q6) => [box b2 229 QD s.2, box b1 23 Qb (Vector.replicate 32 (0#8))]) e4 () (fun a w hst => (hst.sub .k4).keep .h2) ?_ ?_
 ·clear h e4
  rintro _ ⟨y1, y2⟩ lr h
  change VW y1 y2 = some _ at h
  show Run _ _ _ [(0, (sl u8).slot y1), (2, val (.pointer (some ⟨b1, 0, none⟩))), (3, val (.pointer (some ⟨b2, 0, none⟩))), (4, u64.slot (BitVec.ofInt 64 (p_b.length : Int)))] [box b2 229 QD y2, box b1 23 Qb (Vector.replicate 32 (0#8))]
  unfold VW at h
  refine rs <| rs <| rt <| jm ?_
  refine jq (QX (sz := 1) (ht rfl) (by kernel_rfl)) ?_
  refine jq (XF (ht rfl) Qe) ?_
  refine Qd <| Qn (ht rfl) (fun e1 => ?_) (fun e1 => ?_)
  ·replace h := bt e1 h
   refine Qm <| QJ <| rs <| rt <| jq (plb (ht rfl) .here .a) ?_
   refine jm ?_
   obtain ⟨r1, e2, h⟩ := bs h
   refine jq (pc tl2 (Kv hg2 e2)) ?_
   refine jk (r' := r1) (ht rfl) (ht rfl) .here .a ?_
   refine Qd <| rt <| jm ?_
   obtain ⟨x1, e3, h⟩ := bs h
   refine jq (ZH (ht rfl) (.yes Qe Qh) .no e3 (by kernel_rfl)) ?_
   refine ja ?_
   refine Qd <| Qs ?_
   obtain rfl := oi h
   exact QZ () .k4 .h2
  ·replace h := bf e1 h
   obtain rfl := oi h
   exact Jf () .k4 .h2
 ·rintro _
  show Run _ _ _ [(0, (sl u8).slot y3), (2, val (.pointer (some ⟨b1, 0, none⟩))), (3, val (.pointer (some ⟨b2, 0, none⟩))), (4, u64.slot (BitVec.ofInt 64 (p_b.length : Int)))] [box b2 229 QD y4, box b1 23 Qb (Vector.replicate 32 (0#8))]
  refine Q9 (Γ' := [(0, (sl u8).slot y3), (2, val (.pointer (some ⟨b1, 0, none⟩))), (3, val (.pointer (some ⟨b2, 0, none⟩))), (4, u64.slot (BitVec.ofInt 64 (p_b.length : Int)))]) (H' := [box b2 229 QD y4, box b1 23 Qb (Vector.replicate 32 (0#8))]) .k4 .h2 ?_
  refine rs <| rt <| al (x := (Vector.replicate 128 (0#8))) (R := (vec 128 u8)) (QA 128 QH) fun b3 => ?_
  refine Qd <| rs <| rt <| jq (pa Qe) ?_
  refine Qd <| rs <| rs <| rt <| jm ?_
  refine jq (QX (sz := 1) (ht rfl) (by kernel_rfl)) ?_
  refine jq (XF (ht rfl) Qe) ?_
  refine Qd ?_
  obtain ⟨y5, e6, h⟩ := bs h
  refine KC (ι := Unit) (Γ' := fun (_ : Unit) => [(0, (sl u8).slot y3), (2, val (.pointer (some ⟨b1, 0, none⟩))), (3, val (.pointer (some ⟨b2, 0, none⟩))), (4, u64.slot (BitVec.ofInt 64 (p_b.length : Int))), (5, val (.pointer (some ⟨b3, 0, none⟩))), (6, i64.slot y5)]) (H' := fun (_ : Unit) => [box b3 231 (vec 128 u8) (Vector.replicate 128 (0#8)), box b2 229 QD y4, box b1 23 Qb (Vector.replicate 32 (0#8))]) ?_ fun J => ?_
  ·intro _
   clear e6
   show Run _ _ _ [(0, (sl u8).slot y3), (2, val (.pointer (some ⟨b1, 0, none⟩))), (3, val (.pointer (some ⟨b2, 0, none⟩))), (4, u64.slot (BitVec.ofInt 64 (p_b.length : Int))), (5, val (.pointer (some ⟨b3, 0, none⟩))), (6, i64.slot y5)] [box b3 231 (vec 128 u8) (Vector.replicate 128 (0#8)), box b2 229 QD y4, box b1 23 Qb (Vector.replicate 32 (0#8))]
   refine rs <| rt <| jq (Kd (lo := 0) (sz := 1) (n := 128) (ht rfl) .no .no 128 128 rfl (by kernel_rfl)) ?_
   refine jm ?_
   refine QfQ (lo := 0) (n := 128) (ht rfl) .here (JE (ht rfl)) (by decide) (by kernel_rfl) rfl ?_
   refine Qd <| rs <| rt <| jm ?_
   refine jq (QX (sz := 1) (ht rfl) (by kernel_rfl)) ?_
   obtain ⟨e7, h⟩ := QS h
   refine jq (Qq (n := 128) (sz := 1) (ht rfl) (ht rfl) Qh e7.1 e7.2 (by kernel_rfl)) ?_
   obtain ⟨x2, e8, h⟩ := bs h
   refine ZF (r' := x2) (ht rfl) (QE (x := 128#8) rfl) .here (.t .a (Path.atI 128 u8 ((y3.length : Int).toNat) (Vl e7))) (by kernel_rfl) (oi e8) ?_
   refine Qd <| rs <| rs <| rt <| jq (pm Qe) ?_
   refine Qd ?_
   obtain ⟨⟨y8, y9⟩, e13, h⟩ := bs h
   refine Q2 (Γi := fun (i : Unit) (s : Int × (Vector (BitVec 8) 128)) => [(2, val (.pointer (some ⟨b1, 0, none⟩))), (3, val (.pointer (some ⟨b2, 0, none⟩))), (4, u64.slot (BitVec.ofInt 64 (p_b.length : Int))), (5, val (.pointer (some ⟨b3, 0, none⟩))), (6, i64.slot y5), (31, i64.slot s.1)]) (Hi := fun (i : Unit) (s : Int × (Vector (BitVec 8) 128)) => [box b3 231 (vec 128 u8) s.2, box b2 229 QD y4, box b1 23 Qb (Vector.replicate 32 (0#8))]) e13 () (fun a w hst => (hst.sub .k6).keep .h3) ?_ ?_
   ·clear h e13
    rintro _ ⟨y6, y7⟩ lr h
    change Kz y5 p_b y6 y7 = some _ at h
    show Run _ _ _ [(2, val (.pointer (some ⟨b1, 0, none⟩))), (3, val (.pointer (some ⟨b2, 0, none⟩))), (4, u64.slot (BitVec.ofInt 64 (p_b.length : Int))), (5, val (.pointer (some ⟨b3, 0, none⟩))), (6, i64.slot y5), (31, i64.slot y6)] [box b3 231 (vec 128 u8) y7, box b2 229 QD y4, box b1 23 Qb (Vector.replicate 32 (0#8))]
    unfold Kz at h
    refine rs <| rt <| jq (Q7 (ht rfl) Qe) ?_
    refine Qd <| rs <| Qn (ht rfl) (fun e9 => ?_) (fun e9 => ?_)
    ·replace h := bt e9 h
     refine Qm <| rs <| QJ <| rs <| rt <| jm ?_
     refine ja ?_
     refine Qd <| rt <| jm ?_
     refine jq (JS (ht rfl) Qe) ?_
     refine jm ?_
     refine jq (JS (ht rfl) (ht rfl)) ?_
     refine jm ?_
     refine jq (QaB (k := .u64) (b := 64) rfl rfl (ht rfl) (QE (x := 3#64) rfl) JY (Int.natCast_nonneg _)) ?_
     refine jm ?_
     refine jq (XJ Qe (ht rfl)) ?_
     obtain ⟨e10, h⟩ := QS h
     refine jq (Xe (k := .u64) (b := 64) rfl (ht rfl) (ht rfl) Qh e10) ?_
     refine jq (Zi (k := .u8) (b := 8) rfl rfl (by kernel_rfl) (ht rfl)) ?_
     obtain ⟨e11, h⟩ := QS h
     refine jq (Qq (n := 128) (sz := 1) (ht rfl) (ht rfl) Qh e11.1 e11.2 (by kernel_rfl)) ?_
     obtain ⟨x3, e12, h⟩ := bs h
     refine ZF (r' := x3) (ht rfl) (ht rfl) .here (.t .a (Path.atI 128 u8 ((w64 ((w64 (y5 - (1 : Int))) - y6)).toNat) (Vl e11))) (by kernel_rfl) (oi e12) ?_
     refine Qd <| Qs <| rt <| jq (QW (ht rfl) Qe) ?_
     refine jm ?_
     refine Qd ?_
     obtain rfl := oi h
     exact QZ () .k6 .h3
    ·replace h := bf e9 h
     obtain rfl := oi h
     exact Jf () .k6 .h3
   ·rintro _
    show Run _ _ _ [(2, val (.pointer (some ⟨b1, 0, none⟩))), (3, val (.pointer (some ⟨b2, 0, none⟩))), (4, u64.slot (BitVec.ofInt 64 (p_b.length : Int))), (5, val (.pointer (some ⟨b3, 0, none⟩))), (6, i64.slot y5), (31, i64.slot y8)] [box b3 231 (vec 128 u8) y9, box b2 229 QD y4, box b1 23 Qb (Vector.replicate 32 (0#8))]
    refine Q9 (Γ' := [(2, val (.pointer (some ⟨b1, 0, none⟩))), (3, val (.pointer (some ⟨b2, 0, none⟩))), (5, val (.pointer (some ⟨b3, 0, none⟩))), (6, i64.slot y5)]) (H' := [box b3 231 (vec 128 u8) y9, box b2 229 QD y4, box b1 23 Qb (Vector.replicate 32 (0#8))]) .k4 .h3 ?_
    refine rs <| rd (n := 2) (.p (plb (ht rfl) (.next .here) .a) <| .p (Kd (lo := 0) (sz := 1) (n := 128) (ht rfl) .no .no 128 128 rfl (by kernel_rfl)) <| .nil) (Je (Γ' := [(2, val (.pointer (some ⟨b1, 0, none⟩))), (3, val (.pointer (some ⟨b2, 0, none⟩))), (5, val (.pointer (some ⟨b3, 0, none⟩))), (6, i64.slot y5), (46, QD.slot y4), (47, val (.slice (some ⟨b3, 0 * 1, none⟩) 128 128))]) (H' := [box b3 231 (vec 128 u8) y9, box b2 229 QD y4, box b1 23 Qb (Vector.replicate 32 (0#8))]) .k6 .h3 ?_)
    obtain ⟨r2, e14, h⟩ := bs h
    refine jq (Yo (Q1 (Yr (ht rfl)) <| Q1 (QhK (ht rfl) .here (by decide)) <| Zj) (by kernel_rfl) (Kv hg2 e14) (Rep.flat_slot (X9 _ (V9 _ _)) _)) ?_
    refine jk (r' := r2) (ht rfl) (ht rfl) (.next .here) .a ?_
    refine Qd <| rs <| rs <| rt <| jm ?_
    refine jq (ZJ (ht rfl) Qe) ?_
    refine Qd ?_
    obtain ⟨y10, e17, h⟩ := bs h
    refine KC (ι := Unit) (Γ' := fun (_ : Unit) => [(2, val (.pointer (some ⟨b1, 0, none⟩))), (3, val (.pointer (some ⟨b2, 0, none⟩)))]) (H' := fun (_ : Unit) => [box b2 229 QD y10, box b1 23 Qb (Vector.replicate 32 (0#8))]) ?_ fun J => ?_
    ·intro _
     clear e17
     show Run _ _ _ [(2, val (.pointer (some ⟨b1, 0, none⟩))), (3, val (.pointer (some ⟨b2, 0, none⟩)))] [box b2 229 QD y10, box b1 23 Qb (Vector.replicate 32 (0#8))]
     refine rs <| rt <| al (x := (Vector.replicate 32 (0#8))) (R := Qb) (QA 32 QH) fun b4 => ?_
     refine Qd <| rs <| rs <| rt <| jq (pm Qe) ?_
     refine Qd ?_
     obtain ⟨⟨y13, y14⟩, e23, h⟩ := bs h
     refine Q2 (Γi := fun (i : Unit) (s : Int × Qa) => [(2, val (.pointer (some ⟨b1, 0, none⟩))), (3, val (.pointer (some ⟨b2, 0, none⟩))), (8, val (.pointer (some ⟨b4, 0, none⟩))), (54, i64.slot s.1)]) (Hi := fun (i : Unit) (s : Int × Qa) => [box b4 23 Qb s.2, box b2 229 QD y10, box b1 23 Qb (Vector.replicate 32 (0#8))]) e23 () (fun a w hst => (hst.sub .k4).keep .h3) ?_ ?_
     ·clear h e23
      rintro _ ⟨y11, y12⟩ lr h
      change KD y10 y11 y12 = some _ at h
      show Run _ _ _ [(2, val (.pointer (some ⟨b1, 0, none⟩))), (3, val (.pointer (some ⟨b2, 0, none⟩))), (8, val (.pointer (some ⟨b4, 0, none⟩))), (54, i64.slot y11)] [box b4 23 Qb y12, box b2 229 QD y10, box b1 23 Qb (Vector.replicate 32 (0#8))]
      unfold KD at h
      refine rs <| rt <| jq (Q7 (ht rfl) Qe) ?_
      refine Qd <| rs <| Qn (ht rfl) (fun e18 => ?_) (fun e18 => ?_)
      ·replace h := bt e18 h
       refine Qm <| rs <| QJ <| rs <| rt <| jm ?_
       refine ja ?_
       refine Qd <| rt <| jm ?_
       refine jm ?_
       refine jq (B3 (ht rfl) Qe (by decide)) ?_
       obtain ⟨x4, e19, h⟩ := bs h
       refine jq (Qq (n := 8) (sz := 1) (ht rfl) (ht rfl) Qh (QF e19).1 (ZT e19) (by kernel_rfl)) ?_
       refine jq (PJ.eqv (plb (ht rfl) (.next .here) (.t .a (Path.atI 8 u32 ((w64 (Int.tdiv y11 (4 : Int))).toNat) (QF e19).2.1))) (ZW e19 (QF e19).2.1)) ?_
       refine jm ?_
       refine jq (qn (ht rfl) Qe (by decide)) ?_
       refine jq (XJ Qe (ht rfl)) ?_
       refine jq (JS Qe (ht rfl)) ?_
       obtain ⟨e20, h⟩ := QS h
       refine jq (Xe (k := .u32) (b := 32) rfl (ht rfl) (ht rfl) Qh e20) ?_
       refine jq (Zi (k := .u8) (b := 8) rfl rfl (by kernel_rfl) (ht rfl)) ?_
       obtain ⟨e21, h⟩ := QS h
       refine jq (Qq (n := 32) (sz := 1) (ht rfl) (ht rfl) Qh e21.1 e21.2 (by kernel_rfl)) ?_
       obtain ⟨x5, e22, h⟩ := bs h
       refine ZF (r' := x5) (ht rfl) (ht rfl) .here (.t .a (Path.atI 32 u8 y11.toNat (Vl e21))) (by kernel_rfl) (oi e22) ?_
       refine Qd <| Qs <| rt <| jq (QW (ht rfl) Qe) ?_
       refine jm ?_
       refine Qd ?_
       obtain rfl := oi h
       exact QZ () .k4 .h3
      ·replace h := bf e18 h
       obtain rfl := oi h
       exact Jf () .k4 .h3
     ·rintro _
      show Run _ _ _ [(2, val (.pointer (some ⟨b1, 0, none⟩))), (3, val (.pointer (some ⟨b2, 0, none⟩))), (8, val (.pointer (some ⟨b4, 0, none⟩))), (54, i64.slot y13)] [box b4 23 Qb y14, box b2 229 QD y10, box b1 23 Qb (Vector.replicate 32 (0#8))]
      refine Q9 (Γ' := [(2, val (.pointer (some ⟨b1, 0, none⟩))), (8, val (.pointer (some ⟨b4, 0, none⟩)))]) (H' := [box b4 23 Qb y14, box b1 23 Qb (Vector.replicate 32 (0#8))]) .k2 (.cons .here <| .cons (.next .here) <| .nil) ?_
      refine rs <| rt <| jq (plb (ht rfl) .here .a) ?_
      refine jk (r' := y14) (ht rfl) (ht rfl) (.next .here) .a ?_
      refine Qd ?_
      obtain rfl := oi h
      exact Qo fun a w hst => QL hst rfl (.cell rfl .here (by kernel_rfl)) () (fun _ _ h => h) (.nil)
    ·refine Qn (ht rfl) (fun e15 => ?_) (fun e15 => ?_)
     ·replace h := bt e15 e17
      refine rd (n := 2) (.p (plb (ht rfl) .here .a) <| .p (Kd (lo := 64) (sz := 1) (n := 128) (ht rfl) (.yes Qe Qh) .no 64 64 rfl (by kernel_rfl)) <| .nil) (Je (Γ' := [(2, val (.pointer (some ⟨b1, 0, none⟩))), (3, val (.pointer (some ⟨b2, 0, none⟩))), (51, QD.slot r2), (52, val (.slice (some ⟨b3, 64 * 1, none⟩) 64 64))]) (H' := [box b2 229 QD r2, box b3 231 (vec 128 u8) y9, box b1 23 Qb (Vector.replicate 32 (0#8))]) .k4 .h3 ?_)
      obtain ⟨r3, e16, h⟩ := bs h
      refine jq (Yo (Q1 (Yr (ht rfl)) <| Q1 (QfF (lo := 64) (ht rfl) (.next .here) (by decide) (by decide)) <| Zj) (by kernel_rfl) (Kv hg2 e16) (Rep.flat_slot (X9 _ (V9 _ _)) _)) ?_
      refine jk (r' := r3) (ht rfl) (ht rfl) .here .a ?_
      refine Qd ?_
      obtain rfl := oi h
      exact Q9 .k2 (.cons .here <| .cons (.next .here) <| .nil) (J ())
     ·replace h := bf e15 e17
      refine Qm ?_
      obtain rfl := oi h
      exact Q9 .k2 (.cons .here <| .cons (.next .here) <| .nil) (J ())
  ·refine Qn (ht rfl) (fun e5 => ?_) (fun e5 => ?_)
   ·replace h := bt e5 e6
    refine rt <| jq (pa Qe) ?_
    refine Qd ?_
    obtain rfl := oi h
    exact Q9 .k6 .h3 (J ())
   ·replace h := bf e5 e6
    refine Qm ?_
    obtain rfl := oi h
    exact Q9 .k6 .h3 (J ())
theorem QeC {G : GP} {p_tag : BitVec 8} {p_parts : List (List (BitVec 8))} {r : (List (BitVec 8))} (h : WN p_tag p_parts = some r) : Ctr Tryz.prog G 124 [u8.slot p_tag, (sl (sl u8)).slot p_parts] [] (fun (u0 : Value) => ov u0) (fun (u0 : Value) => [own 5 u8 u0 r]) := by
 unfold WN at h
 refine Qp Tryz.func124 rfl 58 rfl rfl fun m0 w0 b0 => ?_
 show Run _ _ _ [(0, u8.slot p_tag), (1, (sl (sl u8)).slot p_parts)] _
 refine rs <| rt <| QN (T := 5) u8 rfl fun v1 => ?_
 refine Qd <| rs <| rt <| jq (pa Qe) ?_
 refine Qd <| rs <| rs <| rt <| jm ?_
 refine jq (QX (sz := 1) (ht rfl) (by kernel_rfl)) ?_
 refine jq (pm Qe) ?_
 refine Qd ?_
 obtain ⟨⟨y3, y4⟩, e4, h⟩ := bs h
 refine Q2 (Γi := fun (i : Unit) (s : Int × Int) => [(0, u8.slot p_tag), (1, (sl (sl u8)).slot p_parts), (5, i64.slot s.1), (12, (sl (sl u8)).slot p_parts), (13, i64.slot (p_parts.length : Int)), (14, i64.slot s.2)]) (Hi := fun (i : Unit) (s : Int × Int) => []) e4 () (fun a w hst => (hst.sub .k6).keep (.nil)) ?_ ?_
 ·clear h e4
  rintro _ ⟨y1, y2⟩ lr h
  change V1 p_parts y1 y2 = some _ at h
  show Run _ _ _ [(0, u8.slot p_tag), (1, (sl (sl u8)).slot p_parts), (5, i64.slot y1), (12, (sl (sl u8)).slot p_parts), (13, i64.slot (p_parts.length : Int)), (14, i64.slot y2)] []
  unfold V1 at h
  refine rs <| rt <| jq (Q7 (ht rfl) (ht rfl)) ?_
  refine Qd <| rs <| Qn (ht rfl) (fun e1 => ?_) (fun e1 => ?_)
  ·replace h := bt e1 h
   refine Qm <| rs <| QJ <| rs <| rt ?_
   obtain ⟨x1, e2, h⟩ := bs h
   refine jq (pix (ht rfl) (ht rfl) Qh e2) ?_
   refine jl ?_
   refine ja ?_
   refine Qd <| rt <| jm ?_
   refine jm ?_
   refine jq (QX (sz := 1) (ht rfl) (by kernel_rfl)) ?_
   refine jq (QW Qe (ht rfl)) ?_
   refine jq (QW (ht rfl) (ht rfl)) ?_
   obtain ⟨x2, e3, h⟩ := bs h
   refine jq (PJ.eqv (pa (ht rfl)) (oi e3)) ?_
   refine Qd <| Qs <| rt <| jq (QW (ht rfl) Qe) ?_
   refine jm ?_
   refine Qd ?_
   obtain rfl := oi h
   exact QZ () .k6 (.nil)
  ·replace h := bf e1 h
   obtain rfl := oi h
   exact Jf () .k6 (.nil)
 ·rintro _
  show Run _ _ _ [(0, u8.slot p_tag), (1, (sl (sl u8)).slot p_parts), (5, i64.slot y3), (12, (sl (sl u8)).slot p_parts), (13, i64.slot (p_parts.length : Int)), (14, i64.slot y4)] []
  refine Q9 (Γ' := [(0, u8.slot p_tag), (1, (sl (sl u8)).slot p_parts), (5, i64.slot y3)]) (H' := []) .k3 (.nil) ?_
  refine rs <| rt <| jm ?_
  obtain ⟨e5, h⟩ := QS h
  refine Uy (T := 5) (R := u8) (z := (0#8)) Qe (ht rfl) (by decide) e5.1 e5.2 (by kernel_rfl) QH (by kernel_rfl) rfl fun v2 => ?_
  refine ja ?_
  refine Qd <| rs <| rt <| jm ?_
  refine jm ?_
  refine jq (QT (T := 5) (R := u8) (.cons (ht rfl) .nil) rfl (by kernel_rfl) (by kernel_rfl)) ?_
  obtain ⟨e6, h⟩ := QS h
  refine JQ (T := 5) (E := 5) (ht rfl) .here (JE (ht rfl)) (by kernel_rfl) (by kernel_rfl) e6 rfl fun v3 => ?_
  refine ja ?_
  refine Qd <| rs <| rs <| rt <| jm ?_
  refine jq (QX (sz := 1) (ht rfl) (by kernel_rfl)) ?_
  refine jq (pm Qe) ?_
  refine Qd ?_
  obtain ⟨⟨y7, y8⟩, e11, h⟩ := bs h
  refine Q2 (Γi := fun (i : Value) (s : Int × (List (BitVec 8))) => [(8, ov i), (30, (sl (sl u8)).slot p_parts), (31, i64.slot (p_parts.length : Int)), (32, i64.slot s.1)]) (Hi := fun (i : Value) (s : Int × (List (BitVec 8))) => [own 5 u8 i s.2]) e11 v3 (fun a w hst => (hst.sub .k4).keep .h1) ?_ ?_
  ·clear h e11
   rintro v4 ⟨y5, y6⟩ lr h
   change V0 p_parts y5 y6 = some _ at h
   show Run _ _ _ [(8, ov v4), (30, (sl (sl u8)).slot p_parts), (31, i64.slot (p_parts.length : Int)), (32, i64.slot y5)] [own 5 u8 v4 y6]
   unfold V0 at h
   refine rs <| rt <| jq (Q7 (ht rfl) (ht rfl)) ?_
   refine Qd <| rs <| Qn (ht rfl) (fun e7 => ?_) (fun e7 => ?_)
   ·replace h := bt e7 h
    refine Qm <| rs <| QJ <| rs <| rt ?_
    obtain ⟨x3, e8, h⟩ := bs h
    refine jq (pix (ht rfl) (ht rfl) Qh e8) ?_
    refine jl ?_
    refine ja ?_
    refine Qd <| rs <| rt <| jm ?_
    refine jq (QX (sz := 1) (ht rfl) (by kernel_rfl)) ?_
    refine jq (Jo (k := .u32) (b := 32) rfl rfl (by kernel_rfl) (ht rfl) Qh) ?_
    refine ja ?_
    refine Qd <| rs <| rt <| jm ?_
    refine jm ?_
    refine jq (Xe (k := .u32) (b := 32) rfl (ht rfl) (QE (x := 24#64) rfl) JY (Int.natCast_nonneg _)) ?_
    refine jq (Zi (k := .u8) (b := 8) rfl rfl (by kernel_rfl) (ht rfl)) ?_
    refine jm ?_
    refine jq (Xe (k := .u32) (b := 32) rfl (ht rfl) (QE (x := 16#64) rfl) JY (Int.natCast_nonneg _)) ?_
    refine jq (Zi (k := .u8) (b := 8) rfl rfl (by kernel_rfl) (ht rfl)) ?_
    refine jm ?_
    refine jq (Xe (k := .u32) (b := 32) rfl (ht rfl) (QE (x := 8#64) rfl) JY (Int.natCast_nonneg _)) ?_
    refine jq (Zi (k := .u8) (b := 8) rfl rfl (by kernel_rfl) (ht rfl)) ?_
    refine jm ?_
    refine jq (Zi (k := .u8) (b := 8) rfl rfl (by kernel_rfl) (ht rfl)) ?_
    refine jq (QT (T := 5) (R := u8) (.cons (ht rfl) (.cons (ht rfl) (.cons (ht rfl) (.cons (ht rfl) .nil)))) rfl (by kernel_rfl) (by kernel_rfl)) ?_
    obtain ⟨e9, h⟩ := QS h
    refine JQ (T := 5) (E := 5) (ht rfl) .here (JE (ht rfl)) (by kernel_rfl) (by kernel_rfl) e9 rfl fun v5 => ?_
    refine ja ?_
    refine Qd <| rt <| jm ?_
    refine jm ?_
    obtain ⟨e10, h⟩ := QS h
    refine JQ (T := 5) (E := 5) (ht rfl) .here (JE (ht rfl)) (by kernel_rfl) (by kernel_rfl) e10 rfl fun v6 => ?_
    refine ja ?_
    refine Qd <| Qs <| rt <| jq (QW (ht rfl) Qe) ?_
    refine jm ?_
    refine Qd ?_
    obtain rfl := oi h
    exact QZ v6 .k4 .h1
   ·replace h := bf e7 h
    obtain rfl := oi h
    exact Jf v4 .k4 .h1
  ·rintro v7
   show Run _ _ _ [(8, ov v7), (30, (sl (sl u8)).slot p_parts), (31, i64.slot (p_parts.length : Int)), (32, i64.slot y7)] [own 5 u8 v7 y8]
   refine Q9 (Γ' := [(8, ov v7)]) (H' := [own 5 u8 v7 y8]) .k1 .h1 ?_
   refine rs <| rt <| jm ?_
   refine ja ?_
   refine Qd ?_
   obtain rfl := oi h
   exact Qo fun a w hst => QL hst rfl (.tmp rfl) v7 (fun _ _ h => h) .h1
theorem qL {G : GP} (hg1 : HG1 G) (hg2 : HG2 G) {p_tag : BitVec 8} {p_parts : List (List (BitVec 8))} {r : Qa} (h : KA p_tag p_parts = some r) : Ctr Tryz.prog G 79 [u8.slot p_tag, (sl (sl u8)).slot p_parts] [] (fun (_ : Unit) => Qb.slot r) (fun (_ : Unit) => []) := by
 unfold KA at h
 refine Qp Tryz.func79 rfl 9 rfl rfl fun m0 w0 b0 => ?_
 show Run _ _ _ [(0, u8.slot p_tag), (1, (sl (sl u8)).slot p_parts)] _
 refine rs <| rt <| al (x := (Vector.replicate 32 (0#8))) (R := Qb) (QA 32 QH) fun b1 => ?_
 refine Qd <| rs <| rt <| jm ?_
 refine jm ?_
 obtain ⟨r1, e1, h⟩ := bs h
 refine jq (pc tl2 (Ctr.froze (QeC e1))) ?_
 obtain ⟨r2, e2, h⟩ := bs h
 refine jq (pc tl1 (We hg1 hg2 e2)) ?_
 refine jk (r' := r2) (ht rfl) (ht rfl) .here .a ?_
 refine Qd ?_
 obtain rfl := oi h
 exact Qo fun a w hst => QL hst rfl (.cell rfl .here (by kernel_rfl)) () (fun _ _ h => h) (.nil)
theorem Qbz {G : GP} (hg1 : HG1 G) (hg2 : HG2 G) {p_seed : Qa} {p_number : List (BitVec 8)} {r : QO × Qa} (h : KB p_seed p_number = some r) : Ctr Tryz.prog G 43 [Qb.slot p_seed, (sl u8).slot p_number] [] (fun (_ : Unit) => tup [QG.slot r.1, Qb.slot r.2]) (fun (_ : Unit) => []) := by
 unfold KB at h
 refine Qp Tryz.func43 rfl 24 rfl rfl fun m0 w0 b0 => ?_
 show Run _ _ _ [(0, Qb.slot p_seed), (1, (sl u8).slot p_number)] _
 refine rs <| rt <| jq (Q0 (ht rfl)) ?_
 refine al (x := (Vector.replicate 16 (0#8))) (R := QG) (QA 16 QH) fun b1 => ?_
 refine al (x := (Vector.replicate 32 (0#8))) (R := Qb) (QA 32 QH) fun b2 => ?_
 refine Qd <| rs <| rt <| jq (JA (ht rfl) (by decide) (by kernel_rfl)) ?_
 refine V4 (T := 31) (R := (sl u8)) (.cons (ht rfl) .nil) rfl (by kernel_rfl) (by kernel_rfl) rfl fun v1 => ?_
 refine ja ?_
 refine Qd <| rs <| rs <| rt <| jm ?_
 refine jq (QX (sz := 1) (ht rfl) (by kernel_rfl)) ?_
 refine jq (Xt (ht rfl) Qe) ?_
 refine Qd ?_
 obtain ⟨y1, e3, h⟩ := bs h
 refine KC (ι := Value) (Γ' := fun (v2 : Value) => [(4, val (.pointer (some ⟨b1, 0, none⟩))), (5, val (.pointer (some ⟨b2, 0, none⟩))), (6, ov v2)]) (H' := fun (v2 : Value) => [own 31 (sl u8) v2 y1, box b2 23 Qb (Vector.replicate 32 (0#8)), box b1 95 QG (Vector.replicate 16 (0#8))]) ?_ fun J => ?_
 ·intro v2
  clear e3
  show Run _ _ _ [(4, val (.pointer (some ⟨b1, 0, none⟩))), (5, val (.pointer (some ⟨b2, 0, none⟩))), (6, ov v2)] [own 31 (sl u8) v2 y1, box b2 23 Qb (Vector.replicate 32 (0#8)), box b1 95 QG (Vector.replicate 16 (0#8))]
  refine rs <| rt <| jm ?_
  obtain ⟨r1, e4, h⟩ := bs h
  refine jq (Yo (Q1 (Yr (QE (x := 105#8) rfl)) <| Q1 (VO (ht rfl) .here) <| Zj) (by kernel_rfl) (qL hg1 hg2 e4) (Rep.flat_slot (X9 _ (V9 _ _)) _)) ?_
  refine al (x := (Vector.replicate 32 (0#8))) (R := Qb) (QA 32 QH) fun b3 => ?_
  refine jk (r' := r1) (ht rfl) (ht rfl) .here .a ?_
  refine Jd (t := 7) .here (.of_lk rfl) ?_
  refine Qd <| rs ?_
  obtain ⟨x1, e5, h⟩ := bs h
  obtain ⟨x2, e6, h⟩ := bs h
  obtain ⟨r2, e7, h⟩ := bs h
  refine rd (n := 5) (.p (QbC (ht rfl) .no (.yes Qe Qh) e5 (by decide) (by kernel_rfl)) <| .p (Qau (e := 5) (ht rfl) e6 rfl (by kernel_rfl)) <| .p (plt (ht rfl)) <| .m rfl <| .p (Yo (Q1 (Yr (QE (x := 115#8) rfl)) <| Q1 (VO (ht rfl) .here) <| Zj) (by kernel_rfl) (qL hg1 hg2 e7) (Rep.flat_slot (X9 _ (V9 _ _)) _)) <| .nil) (Je (Γ' := [(4, val (.pointer (some ⟨b1, 0, none⟩))), (5, val (.pointer (some ⟨b2, 0, none⟩))), (21, QG.slot x2), (23, Qb.slot r2)]) (H' := [box b2 23 Qb (Vector.replicate 32 (0#8)), box b1 95 QG (Vector.replicate 16 (0#8))]) .k4 (.cons (.next .here) <| .cons (.next .here) <| .nil) ?_)
  refine jk (r' := x2) (ht rfl) (ht rfl) (.next .here) .a ?_
  refine jk (r' := r2) (ht rfl) (ht rfl) (.next .here) .a ?_
  refine Qd ?_
  obtain rfl := oi h
  exact Qo fun a w hst => JV hst rfl (.cons (.cell rfl (.next .here) (by kernel_rfl)) <| .cons (.cell rfl .here (by kernel_rfl)) <| .nil) rfl () (fun _ _ h => h) (.nil)
 ·refine Qn (ht rfl) (fun e1 => ?_) (fun e1 => ?_)
  ·replace h := bt e1 e3
   refine rt <| jm ?_
   refine jm ?_
   refine jq (QT (T := 31) (R := (sl u8)) (.cons (ht rfl) .nil) rfl (by kernel_rfl) (by kernel_rfl)) ?_
   obtain ⟨e2, h⟩ := QS h
   refine JQ (T := 31) (E := 31) (ht rfl) .here (JE (ht rfl)) (by kernel_rfl) (by kernel_rfl) e2 rfl fun v3 => ?_
   refine ja ?_
   refine Qd ?_
   obtain rfl := oi h
   exact Q9 .k3 .h3 (J v3)
  ·replace h := bf e1 e3
   refine Qm ?_
   obtain rfl := oi h
   exact Q9 .k3 .h3 (J v1)
theorem Kh {G : GP} (hg1 : HG1 G) (hg2 : HG2 G) {p_id : QO} {p_q : BitVec 32} {p_i : Int} {p_parts : List (List (BitVec 8))} {r : Qa} (h : YF p_id p_q p_i p_parts = some r) : Ctr Tryz.prog G 161 [QG.slot p_id, u32.slot p_q, i64.slot p_i, (sl (sl u8)).slot p_parts] [] (fun (_ : Unit) => Qb.slot r) (fun (_ : Unit) => []) := by
 unfold YF at h
 refine Qp Tryz.func161 rfl 47 rfl rfl fun m0 w0 b0 => ?_
 show Run _ _ _ [(0, QG.slot p_id), (1, u32.slot p_q), (2, i64.slot p_i), (3, (sl (sl u8)).slot p_parts)] _
 refine rs <| rt <| jq (Q0 (ht rfl)) ?_
 refine al (x := (Vector.replicate 32 (0#8))) (R := Qb) (QA 32 QH) fun b1 => ?_
 refine Qd <| rs <| rt ?_
 obtain ⟨e1, h⟩ := QS h
 refine Uy (T := 5) (R := u8) (z := (0#8)) Qe Qe (by decide) e1.1 e1.2 (by kernel_rfl) QH (by kernel_rfl) rfl fun v1 => ?_
 refine ja ?_
 refine Qd <| rs <| rt <| jm ?_
 refine jq (JA (ht rfl) (by decide) (by kernel_rfl)) ?_
 obtain ⟨e2, h⟩ := QS h
 refine JQ (T := 5) (E := 5) (ht rfl) .here (JE (ht rfl)) (by kernel_rfl) (by kernel_rfl) e2 rfl fun v2 => ?_
 refine ja ?_
 refine Qd <| rs <| rt <| jm ?_
 refine jm ?_
 refine jq (Xe (k := .u32) (b := 32) rfl (ht rfl) (QE (x := 24#64) rfl) JY (Int.natCast_nonneg _)) ?_
 refine jq (Zi (k := .u8) (b := 8) rfl rfl (by kernel_rfl) (ht rfl)) ?_
 refine jm ?_
 refine jq (Xe (k := .u32) (b := 32) rfl (ht rfl) (QE (x := 16#64) rfl) JY (Int.natCast_nonneg _)) ?_
 refine jq (Zi (k := .u8) (b := 8) rfl rfl (by kernel_rfl) (ht rfl)) ?_
 refine jm ?_
 refine jq (Xe (k := .u32) (b := 32) rfl (ht rfl) (QE (x := 8#64) rfl) JY (Int.natCast_nonneg _)) ?_
 refine jq (Zi (k := .u8) (b := 8) rfl rfl (by kernel_rfl) (ht rfl)) ?_
 refine jm ?_
 refine jq (Zi (k := .u8) (b := 8) rfl rfl (by kernel_rfl) (ht rfl)) ?_
 refine jm ?_
 refine jq (Ba (ht rfl) (QE (x := 8#64) rfl) JY (Int.natCast_nonneg _)) ?_
 refine jq (Jo (k := .u8) (b := 8) rfl rfl (by kernel_rfl) (ht rfl) Qh) ?_
 refine jm ?_
 refine jq (Jo (k := .u8) (b := 8) rfl rfl (by kernel_rfl) (ht rfl) Qh) ?_
 refine jq (QT (T := 5) (R := u8) (.cons (ht rfl) (.cons (ht rfl) (.cons (ht rfl) (.cons (ht rfl) (.cons (ht rfl) (.cons (ht rfl) .nil)))))) rfl (by kernel_rfl) (by kernel_rfl)) ?_
 obtain ⟨e3, h⟩ := QS h
 refine JQ (T := 5) (E := 5) (ht rfl) .here (JE (ht rfl)) (by kernel_rfl) (by kernel_rfl) e3 rfl fun v3 => ?_
 refine ja ?_
 refine Qd <| rs <| rs <| rt <| jm ?_
 refine jq (QX (sz := 1) (ht rfl) (by kernel_rfl)) ?_
 refine jq (pm Qe) ?_
 refine Qd ?_
 obtain ⟨⟨y3, y4⟩, e7, h⟩ := bs h
 refine Q2 (Γi := fun (i : Value) (s : Int × (List (BitVec 8))) => [(8, val (.pointer (some ⟨b1, 0, none⟩))), (9, ov i), (35, (sl (sl u8)).slot p_parts), (36, i64.slot (p_parts.length : Int)), (37, i64.slot s.1)]) (Hi := fun (i : Value) (s : Int × (List (BitVec 8))) => [own 5 u8 i s.2, box b1 23 Qb (Vector.replicate 32 (0#8))]) e7 v3 (fun a w hst => (hst.sub .k5).keep .h2) ?_ ?_
 ·clear h e7
  rintro v4 ⟨y1, y2⟩ lr h
  change Xm p_parts y1 y2 = some _ at h
  show Run _ _ _ [(8, val (.pointer (some ⟨b1, 0, none⟩))), (9, ov v4), (35, (sl (sl u8)).slot p_parts), (36, i64.slot (p_parts.length : Int)), (37, i64.slot y1)] [own 5 u8 v4 y2, box b1 23 Qb (Vector.replicate 32 (0#8))]
  unfold Xm at h
  refine rs <| rt <| jq (Q7 (ht rfl) (ht rfl)) ?_
  refine Qd <| rs <| Qn (ht rfl) (fun e4 => ?_) (fun e4 => ?_)
  ·replace h := bt e4 h
   refine Qm <| rs <| QJ <| rs <| rt ?_
   obtain ⟨x1, e5, h⟩ := bs h
   refine jq (pix (ht rfl) (ht rfl) Qh e5) ?_
   refine jl ?_
   refine ja ?_
   refine Qd <| rt <| jm ?_
   refine jm ?_
   obtain ⟨e6, h⟩ := QS h
   refine JQ (T := 5) (E := 5) (ht rfl) .here (JE (ht rfl)) (by kernel_rfl) (by kernel_rfl) e6 rfl fun v5 => ?_
   refine ja ?_
   refine Qd <| Qs <| rt <| jq (QW (ht rfl) Qe) ?_
   refine jm ?_
   refine Qd ?_
   obtain rfl := oi h
   exact QZ v5 .k5 .h2
  ·replace h := bf e4 h
   obtain rfl := oi h
   exact Jf v4 .k5 .h2
 ·rintro v6
  show Run _ _ _ [(8, val (.pointer (some ⟨b1, 0, none⟩))), (9, ov v6), (35, (sl (sl u8)).slot p_parts), (36, i64.slot (p_parts.length : Int)), (37, i64.slot y3)] [own 5 u8 v6 y4, box b1 23 Qb (Vector.replicate 32 (0#8))]
  refine Q9 (Γ' := [(8, val (.pointer (some ⟨b1, 0, none⟩))), (9, ov v6)]) (H' := [own 5 u8 v6 y4, box b1 23 Qb (Vector.replicate 32 (0#8))]) .k2 .h2 ?_
  refine rs <| rt <| jm ?_
  obtain ⟨r1, e8, h⟩ := bs h
  refine jq (Yo (Q1 (VO (ht rfl) .here) <| Zj) (by kernel_rfl) (We hg1 hg2 e8) (Rep.flat_slot (X9 _ (V9 _ _)) _)) ?_
  refine jk (r' := r1) (ht rfl) (ht rfl) (.next .here) .a ?_
  refine Qd ?_
  obtain rfl := oi h
  exact Qo fun a w hst => QL hst rfl (.cell rfl .here (by kernel_rfl)) () (fun _ _ h => h) (.nil)
theorem WG {G : GP} (hg1 : HG1 G) (hg2 : HG2 G) {p_id : QO} {p_q : BitVec 32} {p_i : Int} {p_h : Qa} {p_from : Int} {p_to : Int} {r : Qa} (h : XL p_id p_q p_i p_h p_from p_to = some r) : Ctr Tryz.prog G 125 [QG.slot p_id, u32.slot p_q, i64.slot p_i, Qb.slot p_h, i64.slot p_from, i64.slot p_to] [] (fun (_ : Unit) => Qb.slot r) (fun (_ : Unit) => []) := by
 unfold XL at h
 refine Qp Tryz.func125 rfl 30 rfl rfl fun m0 w0 b0 => ?_
 show Run _ _ _ [(0, QG.slot p_id), (1, u32.slot p_q), (2, i64.slot p_i), (3, Qb.slot p_h), (4, i64.slot p_from), (5, i64.slot p_to)] _
 refine rs <| rt <| jq (Q0 (ht rfl)) ?_
 refine Bq (ht rfl) rfl fun b1 => ?_
 refine al (x := (Vector.replicate 32 (0#8))) (R := Qb) (QA 32 QH) fun b2 => ?_
 refine Qd <| rs <| rs <| rt <| jm ?_
 refine ja ?_
 refine Qd ?_
 obtain ⟨⟨y3, y4⟩, e3, h⟩ := bs h
 refine Q2 (Γi := fun (i : Unit) (s : Int × Qa) => [(1, u32.slot p_q), (2, i64.slot p_i), (5, i64.slot p_to), (6, Qt QG p_id), (9, val (.pointer (some ⟨b1, 0, none⟩))), (12, val (.pointer (some ⟨b2, 0, none⟩))), (13, i64.slot s.1)]) (Hi := fun (i : Unit) (s : Int × Qa) => [box b2 23 Qb (Vector.replicate 32 (0#8)), box b1 23 Qb s.2]) e3 () (fun a w hst => (hst.sub .k7).keep .h2) ?_ ?_
 ·clear h e3
  rintro _ ⟨y1, y2⟩ lr h
  change X7 p_to p_id p_q p_i y1 y2 = some _ at h
  show Run _ _ _ [(1, u32.slot p_q), (2, i64.slot p_i), (5, i64.slot p_to), (6, Qt QG p_id), (9, val (.pointer (some ⟨b1, 0, none⟩))), (12, val (.pointer (some ⟨b2, 0, none⟩))), (13, i64.slot y1)] [box b2 23 Qb (Vector.replicate 32 (0#8)), box b1 23 Qb y2]
  unfold X7 at h
  refine rs <| rs <| rt <| jm ?_
  refine jm ?_
  refine jq (Q7 (ht rfl) (ht rfl)) ?_
  refine Qd <| Qn (ht rfl) (fun e1 => ?_) (fun e1 => ?_)
  ·replace h := bt e1 h
   refine Qm <| rs <| QJ <| rd (n := 8) (.p (plt (ht rfl)) <| .m rfl <| .m rfl <| .m rfl <| .p (Jo (k := .u8) (b := 8) rfl rfl (by kernel_rfl) (ht rfl) Qh) <| .p (QT (T := 5) (R := u8) (.cons (ht rfl) .nil) rfl (by kernel_rfl) (by kernel_rfl)) <| .p (Kd (lo := 0) (sz := 1) (n := 32) (ht rfl) .no .no 32 32 rfl (by kernel_rfl)) <| .p (Qas (T := 31) (E := [box b1 23 Qb y2]) (R := (sl u8)) (.cons (Qj3 (ht rfl)) (.cons (Qd7 (ht rfl) .here (by decide)) .nil)) (.cons (.next .here) <| .nil) rfl rfl (by kernel_rfl) (by kernel_rfl)) <| .nil) (Je (Γ' := [(1, u32.slot p_q), (2, i64.slot p_i), (5, i64.slot p_to), (6, Qt QG p_id), (9, val (.pointer (some ⟨b1, 0, none⟩))), (12, val (.pointer (some ⟨b2, 0, none⟩))), (13, i64.slot y1), (20, QG.slot p_id), (21, u32.slot p_q), (22, i64.slot p_i), (27, lnt [box b1 23 Qb y2] ((sl (sl u8)).slot ([[BitVec.ofInt 8 y1], y2.toList])))]) (H' := [box b2 23 Qb (Vector.replicate 32 (0#8)), box b1 23 Qb y2]) .k11 .h2 ?_)
   obtain ⟨r1, e2, h⟩ := bs h
   refine jq (Yo (Q1 (Yr (ht rfl)) <| Q1 (Yr (ht rfl)) <| Q1 (Yr (ht rfl)) <| Q1 (Qji (ht rfl) (.cons (.next .here) <| .nil)) <| Zj) (by kernel_rfl) (Kh hg1 hg2 e2) (Rep.flat_slot (X9 _ (V9 _ _)) _)) ?_
   refine jk (r' := r1) (ht rfl) (ht rfl) (.next .here) .a ?_
   refine Qd <| Qs <| rt <| jm ?_
   refine jq (QW (ht rfl) Qe) ?_
   refine ja ?_
   refine Qd ?_
   obtain rfl := oi h
   exact QZ () .k7 (.cons (.next .here) <| .cons .here <| .nil)
  ·replace h := bf e1 h
   obtain rfl := oi h
   exact Jf () .k7 .h2
 ·rintro _
  show Run _ _ _ [(1, u32.slot p_q), (2, i64.slot p_i), (5, i64.slot p_to), (6, Qt QG p_id), (9, val (.pointer (some ⟨b1, 0, none⟩))), (12, val (.pointer (some ⟨b2, 0, none⟩))), (13, i64.slot y3)] [box b2 23 Qb (Vector.replicate 32 (0#8)), box b1 23 Qb y4]
  refine Q9 (Γ' := [(9, val (.pointer (some ⟨b1, 0, none⟩))), (12, val (.pointer (some ⟨b2, 0, none⟩)))]) (H' := [box b2 23 Qb (Vector.replicate 32 (0#8)), box b1 23 Qb y4]) .k2 .h2 ?_
  refine rs <| rt <| jq (plb (ht rfl) (.next .here) .a) ?_
  refine jk (r' := y4) (ht rfl) (ht rfl) .here .a ?_
  refine Qd ?_
  obtain rfl := oi h
  exact Qo fun a w hst => QL hst rfl (.cell rfl .here (by kernel_rfl)) () (fun _ _ h => h) (.nil)
theorem U6 {G : GP} (hg1 : HG1 G) (hg2 : HG2 G) {p_id : QO} {p_q : BitVec 32} {p_i : Int} {p_seed : Qa} {r : Qa} (h : XM p_id p_q p_i p_seed = some r) : Ctr Tryz.prog G 126 [QG.slot p_id, u32.slot p_q, i64.slot p_i, Qb.slot p_seed] [] (fun (_ : Unit) => Qb.slot r) (fun (_ : Unit) => []) := by
 unfold XM at h
 refine Qp Tryz.func126 rfl 16 rfl rfl fun m0 w0 b0 => ?_
 show Run _ _ _ [(0, QG.slot p_id), (1, u32.slot p_q), (2, i64.slot p_i), (3, Qb.slot p_seed)] _
 refine rs <| rt <| jq (Q0 (ht rfl)) ?_
 refine jq (Q0 (ht rfl)) ?_
 refine al (x := (Vector.replicate 32 (0#8))) (R := Qb) (QA 32 QH) fun b1 => ?_
 refine Qd <| rs <| rd (n := 6) (.p (plt (ht rfl)) <| .m rfl <| .m rfl <| .p (QT (T := 5) (R := u8) (.cons (QE (x := 255#8) rfl) .nil) rfl (by kernel_rfl) (by kernel_rfl)) <| .p (JA (ht rfl) (by decide) (by kernel_rfl)) <| .p (QT (T := 31) (R := (sl u8)) (.cons (ht rfl) (.cons (ht rfl) .nil)) rfl (by kernel_rfl) (by kernel_rfl)) <| .nil) (Je (Γ' := [(8, val (.pointer (some ⟨b1, 0, none⟩))), (9, QG.slot p_id), (10, u32.slot p_q), (11, i64.slot p_i), (14, (sl (sl u8)).slot ([[255#8], p_seed.toList]))]) (H' := [box b1 23 Qb (Vector.replicate 32 (0#8))]) .k5 .h1 ?_)
 obtain ⟨r1, e1, h⟩ := bs h
 refine jq (pc tl4 (Kh hg1 hg2 e1)) ?_
 refine jk (r' := r1) (ht rfl) (ht rfl) .here .a ?_
 refine Qd ?_
 obtain rfl := oi h
 exact Qo fun a w hst => QL hst rfl (.cell rfl .here (by kernel_rfl)) () (fun _ _ h => h) (.nil)
theorem VG {G : GP} {p_f : Jy} {r : Int} (h : Yd p_f = some r) : Ctr Tryz.prog G 127 [QC.slot p_f] [] (fun (_ : Unit) => i64.slot r) (fun (_ : Unit) => []) := by
 unfold Yd at h
 refine Qp Tryz.func127 rfl 7 rfl rfl fun m0 w0 b0 => ?_
 show Run _ _ _ [(0, QC.slot p_f)] _
 refine rs <| rt <| jq (Q0 (ht rfl)) ?_
 refine jq (pa Qe) ?_
 refine Qd <| rs <| rt <| jq (pft (ht rfl) .f) ?_
 refine jl ?_
 obtain ⟨e1, h⟩ := QS h
 refine jq (KR Qe (ht rfl) Qh e1) ?_
 refine jq (JS (ht rfl) Qe) ?_
 refine ja ?_
 refine Qd ?_
 obtain rfl := oi h
 exact Qo fun a w hst => QL hst rfl (.tmp rfl) () (fun _ _ h => h) (.nil)
theorem B1 {G : GP} (hg1 : HG1 G) (hg2 : HG2 G) {p_id : QO} {p_q : BitVec 32} {p_ends : List Qa} {r : Qa} (h : V5 p_id p_q p_ends = some r) : Ctr Tryz.prog G 128 [QG.slot p_id, u32.slot p_q, (sl Qb).slot p_ends] [] (fun (_ : Unit) => Qb.slot r) (fun (_ : Unit) => []) := by
 unfold V5 at h
 refine Qp Tryz.func128 rfl 29 rfl rfl fun m0 w0 b0 => ?_
 show Run _ _ _ [(0, QG.slot p_id), (1, u32.slot p_q), (2, (sl Qb).slot p_ends)] _
 refine rs <| rt <| jq (Q0 (ht rfl)) ?_
 refine al (x := (Vector.replicate 32 (0#8))) (R := Qb) (QA 32 QH) fun b1 => ?_
 refine Qd <| rs <| rt <| jm ?_
 refine jq (QX (sz := 32) (ht rfl) (by kernel_rfl)) ?_
 refine jq (XJ Qe (ht rfl)) ?_
 obtain ⟨e1, h⟩ := QS h
 refine Uy (T := 5) (R := u8) (z := (0#8)) Qe (ht rfl) (by decide) e1.1 e1.2 (by kernel_rfl) QH (by kernel_rfl) rfl fun v1 => ?_
 refine ja ?_
 refine Qd <| rs <| rs <| rt <| jm ?_
 refine jq (QX (sz := 32) (ht rfl) (by kernel_rfl)) ?_
 refine jq (pm Qe) ?_
 refine Qd ?_
 obtain ⟨⟨y3, y4⟩, e5, h⟩ := bs h
 refine Q2 (Γi := fun (i : Value) (s : Int × (List (BitVec 8))) => [(1, u32.slot p_q), (3, Qt QG p_id), (6, val (.pointer (some ⟨b1, 0, none⟩))), (7, ov i), (14, (sl Qb).slot p_ends), (15, i64.slot (p_ends.length : Int)), (16, i64.slot s.1)]) (Hi := fun (i : Value) (s : Int × (List (BitVec 8))) => [own 5 u8 i s.2, box b1 23 Qb (Vector.replicate 32 (0#8))]) e5 v1 (fun a w hst => (hst.sub .k7).keep .h2) ?_ ?_
 ·clear h e5
  rintro v2 ⟨y1, y2⟩ lr h
  change Y6 p_ends y1 y2 = some _ at h
  show Run _ _ _ [(1, u32.slot p_q), (3, Qt QG p_id), (6, val (.pointer (some ⟨b1, 0, none⟩))), (7, ov v2), (14, (sl Qb).slot p_ends), (15, i64.slot (p_ends.length : Int)), (16, i64.slot y1)] [own 5 u8 v2 y2, box b1 23 Qb (Vector.replicate 32 (0#8))]
  unfold Y6 at h
  refine rs <| rt <| jq (Q7 (ht rfl) (ht rfl)) ?_
  refine Qd <| rs <| Qn (ht rfl) (fun e2 => ?_) (fun e2 => ?_)
  ·replace h := bt e2 h
   refine Qm <| rs <| QJ <| rs <| rt ?_
   obtain ⟨x1, e3, h⟩ := bs h
   refine jq (pix (ht rfl) (ht rfl) Qh e3) ?_
   refine jl ?_
   refine al (x := (Vector.replicate 32 (0#8))) (R := Qb) (QA 32 QH) fun b2 => ?_
   refine jk (r' := x1) (ht rfl) (ht rfl) .here .a ?_
   refine Jd (t := 9) .here (.of_lk rfl) ?_
   refine Qd <| rt <| jm ?_
   refine jq (JA (ht rfl) (by decide) (by kernel_rfl)) ?_
   obtain ⟨e4, h⟩ := QS h
   refine JQ (T := 5) (E := 5) (ht rfl) .here (JE (ht rfl)) (by kernel_rfl) (by kernel_rfl) e4 rfl fun v3 => ?_
   refine ja ?_
   refine Qd <| Qs <| rt <| jq (QW (ht rfl) Qe) ?_
   refine jm ?_
   refine Qd ?_
   obtain rfl := oi h
   exact QZ v3 .k7 .h2
  ·replace h := bf e2 h
   obtain rfl := oi h
   exact Jf v2 .k7 .h2
 ·rintro v4
  show Run _ _ _ [(1, u32.slot p_q), (3, Qt QG p_id), (6, val (.pointer (some ⟨b1, 0, none⟩))), (7, ov v4), (14, (sl Qb).slot p_ends), (15, i64.slot (p_ends.length : Int)), (16, i64.slot y3)] [own 5 u8 v4 y4, box b1 23 Qb (Vector.replicate 32 (0#8))]
  refine Q9 (Γ' := [(1, u32.slot p_q), (3, Qt QG p_id), (6, val (.pointer (some ⟨b1, 0, none⟩))), (7, ov v4)]) (H' := [own 5 u8 v4 y4, box b1 23 Qb (Vector.replicate 32 (0#8))]) .k4 .h2 ?_
  refine rs <| rt <| jl ?_
  refine jm ?_
  refine jm ?_
  refine Qcg [7, 26] .here (KU (.of_lk rfl) <| KU (.of_lk rfl) <| Qb1) ?_
  refine jq (QT (T := 31) (R := (sl u8)) (.cons (ht rfl) .nil) rfl (by kernel_rfl) (by kernel_rfl)) ?_
  obtain ⟨r1, e6, h⟩ := bs h
  refine jq (pc (hc (ht rfl) <| hc (ht rfl) <| hc Qe <| hc (ht rfl) <| Q3) (Kh hg1 hg2 e6)) ?_
  refine jk (r' := r1) (ht rfl) (ht rfl) .here .a ?_
  refine Qd ?_
  obtain rfl := oi h
  exact Qo fun a w hst => QL hst rfl (.cell rfl .here (by kernel_rfl)) () (fun _ _ h => h) (.nil)
theorem QcF {G : GP} (hg0 : HG0 G) (hg1 : HG1 G) (hg2 : HG2 G) {p_kind : Int} {p_id : QO} {p_q : BitVec 32} {p_seed : Qa} {r : Qa × Int} (h : KY p_kind p_id p_q p_seed = some r) : Ctr Tryz.prog G 80 [i64.slot p_kind, QG.slot p_id, u32.slot p_q, Qb.slot p_seed] [] (fun (_ : Unit) => tup [Qb.slot r.1, i64.slot r.2]) (fun (_ : Unit) => []) := by
 unfold KY at h
 refine Qp Tryz.func80 rfl 49 rfl rfl fun m0 w0 b0 => ?_
 show Run _ _ _ [(0, i64.slot p_kind), (1, QG.slot p_id), (2, u32.slot p_q), (3, Qb.slot p_seed)] _
 refine rs <| rt <| jq (Q0 (ht rfl)) ?_
 refine jq (Q0 (ht rfl)) ?_
 refine al (x := (Vector.replicate 32 (0#8))) (R := Qb) (QA 32 QH) fun b1 => ?_
 refine jq (pa Qe) ?_
 refine Qd <| rs <| rt <| jm ?_
 obtain ⟨r1, e1, h⟩ := bs h
 refine jq (pc tl1 (Wk hg0 e1)) ?_
 refine jm ?_
 refine jx ?_
 refine jx ?_
 refine al (x := (0, 0, 0)) (R := QC) (Qk Qx (Qk Qx Qx)) fun b2 => ?_
 refine jk (r' := r1.1) (ht rfl) (ht rfl) .here .a ?_
 refine Jd (t := 10) .here (.of_lk rfl) ?_
 refine ja ?_
 refine Qd <| rs <| rs <| rt <| jm ?_
 refine jq (ZI (ht rfl)) ?_
 refine Qd <| Qn (ht rfl) (fun e2 => ?_) (fun e2 => ?_)
 ·replace h := bt e2 h
  refine rs <| rt <| jq (JZ (R := Qb) (QA 32 QH) (by kernel_rfl) (by kernel_rfl) rfl .nil) ?_
  refine jk (r' := (Vector.replicate 32 (0#8))) (ht rfl) (ht rfl) .here .a ?_
  refine jq (pa Qe) ?_
  refine Qd ?_
  obtain rfl := oi h
  exact Qo fun a w hst => JV hst rfl (.cons (.cell rfl .here (by kernel_rfl)) <| .cons (.tmp rfl) <| .nil) rfl () (fun _ _ h => h) (.nil)
 ·replace h := bf e2 h
  refine Qm <| rs <| rt <| jq (pft (ht rfl) (.t .s .f)) ?_
  refine jl ?_
  obtain ⟨e3, h⟩ := QS h
  obtain ⟨x1, e4, h⟩ := bs h
  refine QaG (T := 23) (R := Qb) (z := (Vector.replicate 32 (0#8))) (ht rfl) (ht rfl) e3.1 (Int.le_refl _) e3.2 (by kernel_rfl) (QA 32 QH) (by kernel_rfl) (oi e4) rfl fun v1 => ?_
  refine ja ?_
  refine Qd <| rs <| rs <| rt <| jm ?_
  refine jq (YP (sz := 32) (ht rfl) .here (by kernel_rfl)) ?_
  refine jq (pm Qe) ?_
  refine Qd ?_
  obtain ⟨⟨y3, y4⟩, e10, h⟩ := bs h
  refine Q2 (Γi := fun (i : Unit) (s : Int × (List Qa)) => [(2, u32.slot p_q), (5, Qt QG p_id), (7, Qt Qb p_seed), (8, val (.pointer (some ⟨b1, 0, none⟩))), (10, Qt QC r1.1), (12, ov v1), (26, i64.slot (x1.length : Int)), (27, i64.slot s.1)]) (Hi := fun (i : Unit) (s : Int × (List Qa)) => [own 23 Qb v1 s.2, box b1 23 Qb (Vector.replicate 32 (0#8))]) e10 () (fun a w hst => (hst.sub .k8).keep .h2) ?_ ?_
  ·clear h e10
   rintro _ ⟨y1, y2⟩ lr h
   change Y5 x1 p_id p_q p_seed r1 y1 y2 = some _ at h
   show Run _ _ _ [(2, u32.slot p_q), (5, Qt QG p_id), (7, Qt Qb p_seed), (8, val (.pointer (some ⟨b1, 0, none⟩))), (10, Qt QC r1.1), (12, ov v1), (26, i64.slot (x1.length : Int)), (27, i64.slot y1)] [own 23 Qb v1 y2, box b1 23 Qb (Vector.replicate 32 (0#8))]
   unfold Y5 at h
   refine rs <| rt <| jq (Q7 (ht rfl) (ht rfl)) ?_
   refine Qd <| rs <| Qn (ht rfl) (fun e5 => ?_) (fun e5 => ?_)
   ·replace h := bt e5 h
    refine Qm <| rs <| QJ <| rs <| rt <| jm ?_
    refine ja ?_
    refine Qd ?_
    obtain ⟨r2, e6, h⟩ := bs h
    obtain ⟨r3, e7, h⟩ := bs h
    obtain ⟨r4, e8, h⟩ := bs h
    refine rd (n := 13) (.m rfl <| .m rfl <| .p (plt (ht rfl)) <| .m rfl <| .m rfl <| .p (plt (ht rfl)) <| .m rfl <| .m rfl <| .p (plt (ht rfl)) <| .p (pc tl4 (U6 hg1 hg2 e6)) <| .p (plt (ht rfl)) <| .p (pc tl1 (VG e7)) <| .p (pc (hc (ht rfl) <| hc (ht rfl) <| hc (ht rfl) <| hc (ht rfl) <| hc Qe <| hc (ht rfl) <| Q3) (WG hg1 hg2 e8)) <| .nil) (Je (Γ' := [(2, u32.slot p_q), (5, Qt QG p_id), (7, Qt Qb p_seed), (8, val (.pointer (some ⟨b1, 0, none⟩))), (10, Qt QC r1.1), (12, ov v1), (26, i64.slot (x1.length : Int)), (27, i64.slot y1), (30, ov v1), (31, i64.slot y1), (42, Qb.slot r4)]) (H' := [own 23 Qb v1 y2, box b1 23 Qb (Vector.replicate 32 (0#8))]) .k11 .h2 ?_)
    obtain ⟨e9, h⟩ := QS h
    refine jq (J8 (ht rfl) .here (ht rfl) Qh e9.1 (Vl e9) (by kernel_rfl)) ?_
    refine UQ Qb (y1.toNat) (ht rfl) (ht rfl) .here (Vl e9) (by kernel_rfl) ?_
    refine Qd <| Qs <| rt <| jq (QW (ht rfl) Qe) ?_
    refine jm ?_
    refine Qd ?_
    obtain rfl := oi h
    exact QZ () .k8 .h2
   ·replace h := bf e5 h
    obtain rfl := oi h
    exact Jf () .k8 .h2
  ·rintro _
   show Run _ _ _ [(2, u32.slot p_q), (5, Qt QG p_id), (7, Qt Qb p_seed), (8, val (.pointer (some ⟨b1, 0, none⟩))), (10, Qt QC r1.1), (12, ov v1), (26, i64.slot (x1.length : Int)), (27, i64.slot y3)] [own 23 Qb v1 y4, box b1 23 Qb (Vector.replicate 32 (0#8))]
   refine Q9 (Γ' := [(2, u32.slot p_q), (5, Qt QG p_id), (8, val (.pointer (some ⟨b1, 0, none⟩))), (12, ov v1)]) (H' := [own 23 Qb v1 y4, box b1 23 Qb (Vector.replicate 32 (0#8))]) .k4 .h2 ?_
   refine rs <| rt <| jl ?_
   refine jm ?_
   refine jm ?_
   obtain ⟨r5, e11, h⟩ := bs h
   refine jq (Yo (Q1 (Yr (ht rfl)) <| Q1 (Yr (ht rfl)) <| Q1 (VO (ht rfl) .here) <| Zj) (by kernel_rfl) (B1 hg1 hg2 e11) (Rep.flat_slot (X9 _ (V9 _ _)) _)) ?_
   refine jk (r' := r5) (ht rfl) (ht rfl) (.next .here) .a ?_
   refine jq (pa Qe) ?_
   refine Qd ?_
   obtain rfl := oi h
   exact Qo fun a w hst => JV hst rfl (.cons (.cell rfl .here (by kernel_rfl)) <| .cons (.tmp rfl) <| .nil) rfl () (fun _ _ h => h) (.nil)
theorem BC {G : GP} {p_w : (List (BitVec 8)) × Bool} {p_x : Int} {p_most : Int} {b_w : Nat} {v_w0 : Value} {r : ((List (BitVec 8)) × Bool) × Bool} (h : Vf p_w p_x p_most = some r) : Ctr Tryz.prog G 181 [val (.pointer (some ⟨b_w, 0, none⟩)), i64.slot p_x, i64.slot p_most] [box b_w 161 (prod (exv v_w0) bl) ((), p_w.2), own 5 u8 v_w0 p_w.1] (fun (u0 : Value) => bl.slot r.2) (fun (u0 : Value) => [box b_w 161 (prod (exv u0) bl) ((), r.1.2), own 5 u8 u0 r.1.1]) := by
 unfold Vf at h
 refine Qp Tryz.func181 rfl 24 rfl rfl fun m0 w0 b0 => ?_
 show Run _ _ _ [(0, val (.pointer (some ⟨b_w, 0, none⟩))), (1, i64.slot p_x), (2, i64.slot p_most)] _
 refine rs <| rt <| jq (pa QU) ?_
 refine Qd <| rs <| rs <| rt <| jm ?_
 refine jq (Zl (E := 161) (by kernel_rfl) (ht rfl)) ?_
 refine Qd <| Yi (ht rfl) rfl ?_
 refine Qm <| rs <| rs <| rt <| jm ?_
 refine jq (Q7 (ht rfl) Qe) ?_
 refine jm ?_
 obtain ⟨y1, e3, h⟩ := bs h
 refine Jz (ι := Unit) (Γ' := fun _ => [(0, val (.pointer (some ⟨b_w, 0, none⟩))), (15, bl.slot y1)]) (H' := fun _ => [box b_w 161 (prod (exv v_w0) bl) ((), p_w.2), own 5 u8 v_w0 p_w.1]) 4 ?_ fun J => ?_
 ·intro _
  clear e3
  show Jc _ _ _ [(0, val (.pointer (some ⟨b_w, 0, none⟩))), (15, bl.slot y1)] [box b_w 161 (prod (exv v_w0) bl) ((), p_w.2), own 5 u8 v_w0 p_w.1] _
  refine Qd <| Qn (ht rfl) (fun e4 => ?_) (fun e4 => ?_)
  ·replace h := bt e4 h
   refine rt <| jm ?_
   refine jq (Qv (ht rfl)) ?_
   refine jq (pfp (off := 1) (ht rfl)) ?_
   refine jk (r' := ((), true)) (ht rfl) QU .here (.t .a .s) ?_
   refine Qd <| rs <| rt <| jm ?_
   refine jq (Qv (ht rfl)) ?_
   refine jq (pfp (off := 1) (ht rfl)) ?_
   refine jq (plb (ht rfl) .here (.t .a .s)) ?_
   refine jq (ZI (ht rfl)) ?_
   refine ja ?_
   refine Qd ?_
   obtain rfl := oi h
   exact Qo fun a w hst => QL hst rfl (.tmp rfl) v_w0 (fun _ _ h => h) .h2
  ·replace h := bf e4 h
   refine Qm <| rs <| rt <| jm ?_
   refine jq (Qv (ht rfl)) ?_
   refine jq (pfp (off := 1) (ht rfl)) ?_
   refine jq (plb (ht rfl) .here (.t .a .s)) ?_
   refine jq (ZI (ht rfl)) ?_
   refine ja ?_
   refine Qd ?_
   obtain rfl := oi h
   exact Qo fun a w hst => QL hst rfl (.tmp rfl) v_w0 (fun _ _ h => h) .h2
 ·rcases Jl (decide (p_x < (0 : Int))) with e2 | e2
  ·replace e3 := bt e2 e3
   refine jN e2 ?_
   refine jN e2 ?_
   refine jN e2 ?_
   refine jq (pk1 e2 QU (oi e3)) ?_
   exact Je .k2 .h2 (J ())
  ·replace e3 := bf e2 e3
   refine jz (pm (ht rfl)) e2 ?_
   refine jz (pm (ht rfl)) e2 ?_
   refine jz (Xt (ht rfl) (ht rfl)) e2 ?_
   refine jq (pk2 e2 (ht rfl) (oi e3)) ?_
   exact Je .k2 .h2 (J ())
theorem Qaq {G : GP} {p_w : (List (BitVec 8)) × Bool} {p_x : Int} {b_w : Nat} {v_w0 : Value} {r : ((List (BitVec 8)) × Bool)} (h : Vn p_w p_x = some r) : Ctr Tryz.prog G 162 [val (.pointer (some ⟨b_w, 0, none⟩)), i64.slot p_x] [box b_w 161 (prod (exv v_w0) bl) ((), p_w.2), own 5 u8 v_w0 p_w.1] (fun (u0 : Value) => tup []) (fun (u0 : Value) => [box b_w 161 (prod (exv u0) bl) ((), r.2), own 5 u8 u0 r.1]) := by
 unfold Vn at h
 refine Qp Tryz.func162 rfl 11 rfl rfl fun m0 w0 b0 => ?_
 show Run _ _ _ [(0, val (.pointer (some ⟨b_w, 0, none⟩))), (1, i64.slot p_x)] _
 refine rs <| rt <| jm ?_
 refine jm ?_
 obtain ⟨r1, e1, h⟩ := bs h
 refine jc (hc (ht rfl) <| hc (ht rfl) <| hc Qe <| Q3) (BC e1) .h2 fun v1 => ?_
 refine Qd <| Qn (ht rfl) (fun e2 => ?_) (fun e2 => ?_)
 ·replace h := bt e2 h
  refine rt <| jm ?_
  refine jm ?_
  refine jq (Jo (k := .u64) (b := 64) rfl rfl (by kernel_rfl) (ht rfl) Qh) ?_
  obtain ⟨r2, e3, h⟩ := bs h
  refine jc (hc (ht rfl) <| hc (ht rfl) <| hc Qe <| Q3) (Uu e3) .h2 fun v2 => ?_
  refine Qd ?_
  obtain rfl := oi h
  exact YV fun a w hst => Ki hst rfl (.nil) rfl v2 (fun _ _ h => h) .h2
 ·replace h := bf e2 h
  refine Qm ?_
  obtain rfl := oi h
  exact YV fun a w hst => Ki hst rfl (.nil) rfl v1 (fun _ _ h => h) .h2
theorem Qcv {G : GP} (hg1 : HG1 G) (hg2 : HG2 G) {p_id : QO} {p_r : Int} {p_under : Int} {p_parts : List (List (BitVec 8))} {r : Qa} (h : Ut p_id p_r p_under p_parts = some r) : Ctr Tryz.prog G 129 [QG.slot p_id, i64.slot p_r, i64.slot p_under, (sl (sl u8)).slot p_parts] [] (fun (_ : Unit) => Qb.slot r) (fun (_ : Unit) => []) := by
 unfold Ut at h
 refine Qp Tryz.func129 rfl 43 rfl rfl fun m0 w0 b0 => ?_
 show Run _ _ _ [(0, QG.slot p_id), (1, i64.slot p_r), (2, i64.slot p_under), (3, (sl (sl u8)).slot p_parts)] _
 refine rs <| rt <| jq (Q0 (ht rfl)) ?_
 refine al (x := (Vector.replicate 32 (0#8))) (R := Qb) (QA 32 QH) fun b1 => ?_
 refine Qd <| rs <| rt <| jq (JZ (R := prod (exv (.slice none 0 0)) bl) (Qk X4 Bf) (by kernel_rfl) (by kernel_rfl) rfl .nil) ?_
 refine QaH (T1 := 5) u8 (ht rfl) rfl fun b2 v1 => ?_
 refine ja ?_
 refine Qd <| rs <| rt <| jm ?_
 refine jq (JA (ht rfl) (by decide) (by kernel_rfl)) ?_
 obtain ⟨r1, e1, h⟩ := bs h
 refine jc tl2 (J2 e1) (.cons (.next .here) <| .cons .here <| .nil) fun v2 => ?_
 refine Qd <| rs <| rt <| jm ?_
 refine jm ?_
 refine jq (Jo (k := .u32) (b := 32) rfl rfl (by kernel_rfl) (ht rfl) Qh) ?_
 obtain ⟨r2, e2, h⟩ := bs h
 refine jc tl2 (Z4 e2) .h2 fun v3 => ?_
 refine Qd <| rs <| rt <| jm ?_
 refine jm ?_
 obtain ⟨r3, e3, h⟩ := bs h
 refine jc tl2 (Qaq e3) .h2 fun v4 => ?_
 refine Qd <| rs <| rs <| rt <| jm ?_
 refine jq (QX (sz := 1) (ht rfl) (by kernel_rfl)) ?_
 refine jq (pm Qe) ?_
 refine Qd ?_
 obtain ⟨⟨y4, y5, y6⟩, e7, h⟩ := bs h
 refine Q2 (Γi := fun (i : Value) (s : Int × Bool × (List (BitVec 8))) => [(8, val (.pointer (some ⟨b1, 0, none⟩))), (9, val (.pointer (some ⟨b2, 0, none⟩))), (26, (sl (sl u8)).slot p_parts), (27, i64.slot (p_parts.length : Int)), (28, i64.slot s.1)]) (Hi := fun (i : Value) (s : Int × Bool × (List (BitVec 8))) => [box b2 161 (prod (exv i) bl) ((), s.2.1), own 5 u8 i s.2.2, box b1 23 Qb (Vector.replicate 32 (0#8))]) e7 v4 (fun a w hst => (hst.sub .k5).keep .h3) ?_ ?_
 ·clear h e7
  rintro v5 ⟨y1, y2, y3⟩ lr h
  change VQ p_parts y1 y2 y3 = some _ at h
  show Run _ _ _ [(8, val (.pointer (some ⟨b1, 0, none⟩))), (9, val (.pointer (some ⟨b2, 0, none⟩))), (26, (sl (sl u8)).slot p_parts), (27, i64.slot (p_parts.length : Int)), (28, i64.slot y1)] [box b2 161 (prod (exv v5) bl) ((), y2), own 5 u8 v5 y3, box b1 23 Qb (Vector.replicate 32 (0#8))]
  unfold VQ at h
  refine rs <| rt <| jq (Q7 (ht rfl) (ht rfl)) ?_
  refine Qd <| rs <| Qn (ht rfl) (fun e4 => ?_) (fun e4 => ?_)
  ·replace h := bt e4 h
   refine Qm <| rs <| QJ <| rs <| rt ?_
   obtain ⟨x1, e5, h⟩ := bs h
   refine jq (pix (ht rfl) (ht rfl) Qh e5) ?_
   refine jl ?_
   refine ja ?_
   refine Qd <| rt <| jm ?_
   refine jm ?_
   obtain ⟨r4, e6, h⟩ := bs h
   refine jc tl2 (J2 e6) .h2 fun v6 => ?_
   refine Qd <| Qs <| rt <| jq (QW (ht rfl) Qe) ?_
   refine jm ?_
   refine Qd ?_
   obtain rfl := oi h
   exact QZ v6 .k5 .h3
  ·replace h := bf e4 h
   obtain rfl := oi h
   exact Jf v5 .k5 .h3
 ·rintro v7
  show Run _ _ _ [(8, val (.pointer (some ⟨b1, 0, none⟩))), (9, val (.pointer (some ⟨b2, 0, none⟩))), (26, (sl (sl u8)).slot p_parts), (27, i64.slot (p_parts.length : Int)), (28, i64.slot y4)] [box b2 161 (prod (exv v7) bl) ((), y5), own 5 u8 v7 y6, box b1 23 Qb (Vector.replicate 32 (0#8))]
  refine Q9 (Γ' := [(8, val (.pointer (some ⟨b1, 0, none⟩))), (9, val (.pointer (some ⟨b2, 0, none⟩)))]) (H' := [box b2 161 (prod (exv v7) bl) ((), y5), own 5 u8 v7 y6, box b1 23 Qb (Vector.replicate 32 (0#8))]) .k2 .h3 ?_
  refine rs <| rt <| jm ?_
  obtain ⟨r5, e8, h⟩ := bs h
  refine jc tl1 (XO e8) .h2 fun ⟨v8, v9⟩ => ?_
  refine jm ?_
  refine jx ?_
  refine jx ?_
  refine ja ?_
  refine ja ?_
  refine Qd <| rs <| rt <| jm ?_
  obtain ⟨r6, e9, h⟩ := bs h
  refine jq (Yo (Q1 (VO (ht rfl) (.next (.next .here))) <| Zj) (by kernel_rfl) (We hg1 hg2 e9) (Rep.flat_slot (X9 _ (V9 _ _)) _)) ?_
  refine jk (r' := r6) (ht rfl) (ht rfl) (.next (.next (.next .here))) .a ?_
  refine Qd ?_
  obtain rfl := oi h
  exact Qo fun a w hst => QL hst rfl (.cell rfl .here (by kernel_rfl)) () (fun _ _ h => h) (.nil)
theorem QcM {G : GP} (hg1 : HG1 G) (hg2 : HG2 G) {p_id : QO} {p_r : Int} {p_public : Qa} {r : Qa} (h : WQ p_id p_r p_public = some r) : Ctr Tryz.prog G 81 [QG.slot p_id, i64.slot p_r, Qb.slot p_public] [] (fun (_ : Unit) => Qb.slot r) (fun (_ : Unit) => []) := by
 unfold WQ at h
 refine Qp Tryz.func81 rfl 12 rfl rfl fun m0 w0 b0 => ?_
 show Run _ _ _ [(0, QG.slot p_id), (1, i64.slot p_r), (2, Qb.slot p_public)] _
 refine rs <| rt <| jq (Q0 (ht rfl)) ?_
 refine jq (Q0 (ht rfl)) ?_
 refine al (x := (Vector.replicate 32 (0#8))) (R := Qb) (QA 32 QH) fun b1 => ?_
 refine Qd <| rs <| rd (n := 4) (.p (plt (ht rfl)) <| .m rfl <| .p (JA (ht rfl) (by decide) (by kernel_rfl)) <| .p (QT (T := 31) (R := (sl u8)) (.cons (ht rfl) .nil) rfl (by kernel_rfl) (by kernel_rfl)) <| .nil) (Je (Γ' := [(6, val (.pointer (some ⟨b1, 0, none⟩))), (7, QG.slot p_id), (8, i64.slot p_r), (10, (sl (sl u8)).slot ([p_public.toList]))]) (H' := [box b1 23 Qb (Vector.replicate 32 (0#8))]) .k4 .h1 ?_)
 obtain ⟨r1, e1, h⟩ := bs h
 refine jq (pc (hc (ht rfl) <| hc (ht rfl) <| hc Qe <| hc (ht rfl) <| Q3) (Qcv hg1 hg2 e1)) ?_
 refine jk (r' := r1) (ht rfl) (ht rfl) .here .a ?_
 refine Qd ?_
 obtain rfl := oi h
 exact Qo fun a w hst => QL hst rfl (.cell rfl .here (by kernel_rfl)) () (fun _ _ h => h) (.nil)
theorem QbJ {G : GP} (hg1 : HG1 G) (hg2 : HG2 G) {p_id : QO} {p_r : Int} {p_a : Qa} {p_b : Qa} {r : Qa} (h : U1 p_id p_r p_a p_b = some r) : Ctr Tryz.prog G 82 [QG.slot p_id, i64.slot p_r, Qb.slot p_a, Qb.slot p_b] [] (fun (_ : Unit) => Qb.slot r) (fun (_ : Unit) => []) := by
 unfold U1 at h
 refine Qp Tryz.func82 rfl 15 rfl rfl fun m0 w0 b0 => ?_
 show Run _ _ _ [(0, QG.slot p_id), (1, i64.slot p_r), (2, Qb.slot p_a), (3, Qb.slot p_b)] _
 refine rs <| rt <| jq (Q0 (ht rfl)) ?_
 refine jq (Q0 (ht rfl)) ?_
 refine jq (Q0 (ht rfl)) ?_
 refine al (x := (Vector.replicate 32 (0#8))) (R := Qb) (QA 32 QH) fun b1 => ?_
 refine Qd <| rs <| rd (n := 5) (.p (plt (ht rfl)) <| .m rfl <| .p (JA (ht rfl) (by decide) (by kernel_rfl)) <| .p (JA (ht rfl) (by decide) (by kernel_rfl)) <| .p (QT (T := 31) (R := (sl u8)) (.cons (ht rfl) (.cons (ht rfl) .nil)) rfl (by kernel_rfl) (by kernel_rfl)) <| .nil) (Je (Γ' := [(8, val (.pointer (some ⟨b1, 0, none⟩))), (9, QG.slot p_id), (10, i64.slot p_r), (13, (sl (sl u8)).slot ([p_a.toList, p_b.toList]))]) (H' := [box b1 23 Qb (Vector.replicate 32 (0#8))]) .k4 .h1 ?_)
 obtain ⟨r1, e1, h⟩ := bs h
 refine jq (pc (hc (ht rfl) <| hc (ht rfl) <| hc Qe <| hc (ht rfl) <| Q3) (Qcv hg1 hg2 e1)) ?_
 refine jk (r' := r1) (ht rfl) (ht rfl) .here .a ?_
 refine Qd ?_
 obtain rfl := oi h
 exact Qo fun a w hst => QL hst rfl (.cell rfl .here (by kernel_rfl)) () (fun _ _ h => h) (.nil)
theorem Qdt {G : GP} (hg0 : HG0 G) (hg1 : HG1 G) (hg2 : HG2 G) {p_height : Int} {p_kind : Int} {p_id : QO} {p_seed : Qa} {r : (Option Qy) × Int} (h : B2 p_height p_kind p_id p_seed = some r) : Ctr Tryz.prog G 44 [i64.slot p_height, i64.slot p_kind, QG.slot p_id, Qb.slot p_seed] [] (fun (_ : Unit) => tup [(ptr QI).slot r.1, i64.slot r.2]) (fun (_ : Unit) => []) := by
 unfold B2 at h
 refine Qp Tryz.func44 rfl 95 rfl rfl fun m0 w0 b0 => ?_
 refine Wa fun Qf hq1 hq2 => ?_
 show Run _ _ _ [(0, i64.slot p_height), (1, i64.slot p_kind), (2, QG.slot p_id), (3, Qb.slot p_seed)] _
 refine rs <| rt <| jq (Q0 (ht rfl)) ?_
 refine jq (Q0 (ht rfl)) ?_
 refine jq (pa (Uw (R := QI))) ?_
 refine jq (pa Qe) ?_
 refine Qd <| rs <| rs <| rt <| jm ?_
 refine jm ?_
 obtain ⟨r1, e1, h⟩ := bs h
 refine jq (pc tl2 (Qbb hg0 e1)) ?_
 refine jq (ZI (ht rfl)) ?_
 refine Qd <| Qn (ht rfl) (fun e2 => ?_) (fun e2 => ?_)
 ·replace h := bt e2 h
  refine rs <| rt <| jq (pa (Uw (R := QI))) ?_
  refine jq (pa Qe) ?_
  refine Qd ?_
  obtain rfl := oi h
  exact Qo fun a w hst => JV hst rfl (.cons (.tmp rfl) <| .cons (.tmp rfl) <| .nil) rfl () (fun _ _ h => h) (.nil)
 ·replace h := bf e2 h
  refine Qm <| rs <| rt <| jm ?_
  obtain ⟨e3, h⟩ := QS h
  refine jq (KR Qe (ht rfl) Qh e3) ?_
  refine ja ?_
  refine Qd <| rs ?_
  obtain ⟨e4, h⟩ := QS h
  obtain ⟨x1, e5, h⟩ := bs h
  refine Xn (H' := []) (.nil) ?_
  refine rdL (n := 7) (H := []) (Ls := [⟨[], [(6, ⟨Value, fun (v1 : Value) => [own 23 Qb v1 x1], fun (v1 : Value) => [(28, ov v1)]⟩)]⟩]) (.m rfl <| .m rfl <| .p (plt (ht rfl)) <| .p (plt (ht rfl)) <| .m rfl <| .p (XJ Qe (ht rfl)) <| .step 0 rfl .here (.inl rfl) (fun i => ⟨_, _, fun j => j, (Qd9 (T := 23) (R := Qb) (z := (Vector.replicate 32 (0#8))) (ht rfl) (ht rfl) e4.1 (Int.le_refl _) e4.2 (by kernel_rfl) (QA 32 QH) (by kernel_rfl) (oi e5) rfl), fun _ => rfl, VJ, Bh⟩) <| .nil) ?_
  rintro v1
  refine Je (Γ' := [(1, i64.slot p_kind), (6, Qt QG p_id), (7, Qt Qb p_seed), (10, i64.slot (Xq (1 : Int) p_height)), (22, i64.slot p_height), (23, i64.slot p_kind), (24, QG.slot p_id), (25, Qb.slot p_seed), (28, ov v1)]) (H' := [own 23 Qb v1 x1]) .k9 .h1 ?_
  refine jq (qf (R := (prod i64 (prod i64 (prod QG (prod Qb (exv (.slice none 0 0))))))) (x := (0, 0, (Vector.replicate 16 (0#8)), (Vector.replicate 32 (0#8)), ())) (Qk Qx (Qk Qx (Qk (QA 16 QH) (Qk (QA 32 QH) X4)))) (by kernel_rfl) (by kernel_rfl) rfl (.cons (ht rfl) (KQ (x1 := (p_height, 0, (Vector.replicate 16 (0#8)), (Vector.replicate 32 (0#8)), ())) .f rfl) (by kernel_rfl) (.cons (ht rfl) (KQ (x1 := (p_height, p_kind, (Vector.replicate 16 (0#8)), (Vector.replicate 32 (0#8)), ())) (.t .s .f) rfl) (by kernel_rfl) (.cons (ht rfl) (KQ (x1 := (p_height, p_kind, p_id, (Vector.replicate 32 (0#8)), ())) (.t .s (.t .s .f)) rfl) (by kernel_rfl) (.cons (ht rfl) (KQ (x1 := (p_height, p_kind, p_id, p_seed, ())) (.t .s (.t .s (.t .s .f))) rfl) (by kernel_rfl) (.cons (ht rfl) (QlI (KV i64 p_height (KV i64 p_kind (KV QG p_id (KV Qb p_seed qa))))) (by kernel_rfl) .nil)))))) ?_
  refine Bq (ht rfl) rfl fun b1 => ?_
  refine ja ?_
  refine Qd <| rs <| rs <| rt <| jm ?_
  refine jq (pm Qe) ?_
  refine Qd ?_
  obtain ⟨o, e11, h⟩ := bs h
  refine VZ (Γi := fun (i : Unit) (s : Int × (List Qa)) => [(1, i64.slot p_kind), (6, Qt QG p_id), (7, Qt Qb p_seed), (10, i64.slot (Xq (1 : Int) p_height)), (11, val (.pointer (some ⟨b1, 0, none⟩))), (31, i64.slot (Xq (1 : Int) p_height)), (32, i64.slot s.1)]) (Hi := fun (i : Unit) (s : Int × (List Qa)) => [box b1 153 (prod i64 (prod i64 (prod QG (prod Qb (exv v1))))) (p_height, p_kind, p_id, p_seed, ()), own 23 Qb v1 s.2]) (R := fun x a w => x = r → Qf a w) e11 () (fun a w hst => (hst.sub .k7).keep .h2) ?_ ?_ ?_
  ·clear h e11
   rintro _ ⟨y1, y2⟩ lr h
   change Uf p_height p_kind p_id p_seed y1 y2 = some _ at h
   show Run _ _ _ [(1, i64.slot p_kind), (6, Qt QG p_id), (7, Qt Qb p_seed), (10, i64.slot (Xq (1 : Int) p_height)), (11, val (.pointer (some ⟨b1, 0, none⟩))), (31, i64.slot (Xq (1 : Int) p_height)), (32, i64.slot y1)] [box b1 153 (prod i64 (prod i64 (prod QG (prod Qb (exv v1))))) (p_height, p_kind, p_id, p_seed, ()), own 23 Qb v1 y2]
   unfold Uf at h
   refine rs <| rt <| jq (Q7 (ht rfl) (ht rfl)) ?_
   refine Qd <| rs <| Qn (ht rfl) (fun e6 => ?_) (fun e6 => ?_)
   ·replace h := bt e6 h
    refine Qm <| rs <| QJ <| rs <| rt <| jm ?_
    refine ja ?_
    refine Qd <| rs <| rt <| jm ?_
    refine jl ?_
    refine jm ?_
    refine jq (Jo (k := .u32) (b := 32) rfl rfl (by kernel_rfl) (ht rfl) Qh) ?_
    refine jl ?_
    obtain ⟨r2, e7, h⟩ := bs h
    refine jq (pc tl4 (QcF hg0 hg1 hg2 e7)) ?_
    refine jm ?_
    refine jx ?_
    refine jx ?_
    refine al (x := (Vector.replicate 32 (0#8))) (R := Qb) (QA 32 QH) fun b2 => ?_
    refine jk (r' := r2.1) (ht rfl) (ht rfl) .here .a ?_
    refine Jd (t := 13) .here (.of_lk rfl) ?_
    refine ja ?_
    refine Qd <| rs <| rs <| rt <| jm ?_
    refine jq (YG (ht rfl) Qe) ?_
    refine Qd <| Qn (ht rfl) (fun e8 => ?_) (fun e8 => ?_)
    ·replace h := bt e8 h
     refine rs <| rt <| jm ?_
     refine jq (pa (Uw (R := QI))) ?_
     refine ja ?_
     refine Qd ?_
     obtain rfl := oi h
     refine Qo fun a w hst => ⟨rfl, fun hr => ?_⟩
     subst hr
     exact hq2 a w (JV hst rfl (.cons (.tmp rfl) <| .cons (.tmp rfl) <| .nil) rfl () (fun _ _ h => h) (.nil))
    ·replace h := bf e8 h
     refine Qm ?_
     obtain ⟨r3, e9, h⟩ := bs h
     refine rd (n := 13) (.m rfl <| .p (Qv (ht rfl)) <| .p (pfp (off := 50) (ht rfl)) <| .p (plb (ht rfl) .here (.t .a (.t .s (.t .s (.t .s .s))))) <| .m rfl <| .m rfl <| .p (QW (ht rfl) (ht rfl)) <| .p (plt (ht rfl)) <| .m rfl <| .m rfl <| .p (QW (ht rfl) (ht rfl)) <| .p (plt (ht rfl)) <| .p (pc tl3 (QcM hg1 hg2 e9)) <| .nil) (Je (Γ' := [(1, i64.slot p_kind), (6, Qt QG p_id), (7, Qt Qb p_seed), (10, i64.slot (Xq (1 : Int) p_height)), (11, val (.pointer (some ⟨b1, 0, none⟩))), (31, i64.slot (Xq (1 : Int) p_height)), (32, i64.slot y1), (50, ov v1), (53, i64.slot (w64 ((Xq (1 : Int) p_height) + y1))), (59, Qb.slot r3)]) (H' := [box b1 153 (prod i64 (prod i64 (prod QG (prod Qb (exv v1))))) (p_height, p_kind, p_id, p_seed, ()), own 23 Qb v1 y2]) .k10 .h2 ?_)
     obtain ⟨e10, h⟩ := QS h
     refine jq (J8 (ht rfl) (.next .here) (ht rfl) Qh e10.1 (Vl e10) (by kernel_rfl)) ?_
     refine UQ Qb ((w64 ((Xq (1 : Int) p_height) + y1)).toNat) (ht rfl) (ht rfl) (.next .here) (Vl e10) (by kernel_rfl) ?_
     refine Qd <| Qs <| rt <| jq (QW (ht rfl) Qe) ?_
     refine jm ?_
     refine Qd ?_
     obtain rfl := oi h
     exact QZ () .k7 (.cons (.next .here) <| .cons .here <| .nil)
   ·replace h := bf e6 h
    obtain rfl := oi h
    exact Jf () .k7 .h2
  ·rintro _ ⟨y3, y4⟩ ho
   subst ho
   show Run _ _ _ [(1, i64.slot p_kind), (6, Qt QG p_id), (7, Qt Qb p_seed), (10, i64.slot (Xq (1 : Int) p_height)), (11, val (.pointer (some ⟨b1, 0, none⟩))), (31, i64.slot (Xq (1 : Int) p_height)), (32, i64.slot y3)] [box b1 153 (prod i64 (prod i64 (prod QG (prod Qb (exv v1))))) (p_height, p_kind, p_id, p_seed, ()), own 23 Qb v1 y4]
   refine Q9 (Γ' := [(6, Qt QG p_id), (10, i64.slot (Xq (1 : Int) p_height)), (11, val (.pointer (some ⟨b1, 0, none⟩)))]) (H' := [box b1 153 (prod i64 (prod i64 (prod QG (prod Qb (exv v1))))) (p_height, p_kind, p_id, p_seed, ()), own 23 Qb v1 y4]) .k3 .h2 ?_
   refine rs <| rs <| rt <| jm ?_
   refine jq (JS (ht rfl) Qe) ?_
   obtain ⟨x2, e12, h⟩ := bs h
   refine jq (PJ.eqv (pa (ht rfl)) (oi e12)) ?_
   refine Qd ?_
   obtain ⟨⟨y7, y8⟩, e18, h⟩ := bs h
   refine Q2 (Γi := fun (i : Unit) (s : Int × (List Qa)) => [(6, Qt QG p_id), (11, val (.pointer (some ⟨b1, 0, none⟩))), (15, i64.slot s.1)]) (Hi := fun (i : Unit) (s : Int × (List Qa)) => [box b1 153 (prod i64 (prod i64 (prod QG (prod Qb (exv v1))))) (p_height, p_kind, p_id, p_seed, ()), own 23 Qb v1 s.2]) e18 () (fun a w hst => (hst.sub .k3).keep .h2) ?_ ?_
   ·clear h e18
    rintro _ ⟨y5, y6⟩ lr h
    change Uh p_id y5 y6 = some _ at h
    show Run _ _ _ [(6, Qt QG p_id), (11, val (.pointer (some ⟨b1, 0, none⟩))), (15, i64.slot y5)] [box b1 153 (prod i64 (prod i64 (prod QG (prod Qb (exv v1))))) (p_height, p_kind, p_id, p_seed, ()), own 23 Qb v1 y6]
    unfold Uh at h
    refine rs <| rs <| rt <| jm ?_
    refine jq (Xt (ht rfl) Qe) ?_
    refine Qd <| Qn (ht rfl) (fun e13 => ?_) (fun e13 => ?_)
    ·replace h := bt e13 h
     refine Qm <| rs <| QJ ?_
     obtain ⟨x3, e14, h⟩ := bs h
     obtain ⟨x4, e15, h⟩ := bs h
     obtain ⟨r4, e16, h⟩ := bs h
     refine rd (n := 25) (.m rfl <| .p (Qv (ht rfl)) <| .p (pfp (off := 50) (ht rfl)) <| .p (plb (ht rfl) .here (.t .a (.t .s (.t .s (.t .s .s))))) <| .m rfl <| .p (plt (ht rfl)) <| .m rfl <| .m rfl <| .p (Qv (ht rfl)) <| .p (pfp (off := 50) (ht rfl)) <| .p (plb (ht rfl) .here (.t .a (.t .s (.t .s (.t .s .s))))) <| .m rfl <| .p (XJ Qe (ht rfl)) <| .p (J8 (ht rfl) (.next .here) (ht rfl) Qh (Q4 e14).1 (Q4 e14).2.1 (by kernel_rfl)) <| .p (PJ.eqv (YW Qb ((w64 ((2 : Int) * y5)).toNat) (ht rfl) (.next .here) (Q4 e14).2.1 (by kernel_rfl)) (Ul e14 (Q4 e14).2.1)) <| .m rfl <| .p (Qv (ht rfl)) <| .p (pfp (off := 50) (ht rfl)) <| .p (plb (ht rfl) .here (.t .a (.t .s (.t .s (.t .s .s))))) <| .m rfl <| .p (XJ Qe (ht rfl)) <| .p (QW (ht rfl) Qe) <| .p (J8 (ht rfl) (.next .here) (ht rfl) Qh (Q4 e15).1 (Q4 e15).2.1 (by kernel_rfl)) <| .p (PJ.eqv (YW Qb ((w64 ((w64 ((2 : Int) * y5)) + (1 : Int))).toNat) (ht rfl) (.next .here) (Q4 e15).2.1 (by kernel_rfl)) (Ul e15 (Q4 e15).2.1)) <| .p (pc tl4 (QbJ hg1 hg2 e16)) <| .nil) (Je (Γ' := [(6, Qt QG p_id), (11, val (.pointer (some ⟨b1, 0, none⟩))), (15, i64.slot y5), (71, ov v1), (72, i64.slot y5), (92, Qb.slot r4)]) (H' := [box b1 153 (prod i64 (prod i64 (prod QG (prod Qb (exv v1))))) (p_height, p_kind, p_id, p_seed, ()), own 23 Qb v1 y6]) .k6 .h2 ?_)
     obtain ⟨e17, h⟩ := QS h
     refine jq (J8 (ht rfl) (.next .here) (ht rfl) Qh e17.1 (Vl e17) (by kernel_rfl)) ?_
     refine UQ Qb (y5.toNat) (ht rfl) (ht rfl) (.next .here) (Vl e17) (by kernel_rfl) ?_
     refine Qd <| Qs <| rt <| jm ?_
     refine jq (JS (ht rfl) Qe) ?_
     refine ja ?_
     refine Qd ?_
     obtain rfl := oi h
     exact QZ () .k3 (.cons (.next .here) <| .cons .here <| .nil)
    ·replace h := bf e13 h
     obtain rfl := oi h
     exact Jf () .k3 .h2
   ·rintro _
    show Run _ _ _ [(6, Qt QG p_id), (11, val (.pointer (some ⟨b1, 0, none⟩))), (15, i64.slot y7)] [box b1 153 (prod i64 (prod i64 (prod QG (prod Qb (exv v1))))) (p_height, p_kind, p_id, p_seed, ()), own 23 Qb v1 y8]
    refine Q9 (Γ' := [(11, val (.pointer (some ⟨b1, 0, none⟩)))]) (H' := [box b1 153 (prod i64 (prod i64 (prod QG (prod Qb (exv v1))))) (p_height, p_kind, p_id, p_seed, ()), own 23 Qb v1 y8]) .k1 .h2 ?_
    refine rs <| rt <| jm ?_
    refine ja ?_
    refine jq (pa Qe) ?_
    refine Qd <| Qar (p_height, p_kind, p_id, p_seed, y8) (.next .here) .here (Jt i64 p_height (Jt i64 p_kind (Jt QG p_id (Jt Qb p_seed Xv)))) ?_
    refine Qdf [8, 11, 94] .here (KU (.of_lk rfl) <| KU (.of_lk rfl) <| KU (.of_lk rfl) <| Qb1) ?_
    obtain rfl := oi h
    exact Qo fun a w hst => JV hst rfl (.cons (.tmp rfl) <| .cons (.tmp rfl) <| .nil) rfl () (fun _ _ h => h) (.nil)
  ·intro x a w ho hR
   subst ho
   exact hq1 a w (hR (oi h))
theorem QhR {G : GP} (hg0 : HG0 G) (hg1 : HG1 G) (hg2 : HG2 G) {p_top : Int} {p_bottom : Int} {p_kind : Int} {p_seed : Qa} {r : (Option (Int × Int × Qa × (Option Qy) × (Option Qy) × Int)) × Int} (h : B9 p_top p_bottom p_kind p_seed = some r) : Ctr Tryz.prog G 8 [i64.slot p_top, i64.slot p_bottom, i64.slot p_kind, Qb.slot p_seed] [] (fun (u0 : Nat) => tup [QlR u0 r.1, i64.slot r.2]) (fun (u0 : Nat) => QlW u0 102 (prod i64 (prod i64 (prod Qb (prod (ptr QI) (prod (ptr QI) i64))))) r.1) := by
 unfold B9 at h
 refine Qp Tryz.func8 rfl 40 rfl rfl fun m0 w0 b0 => ?_
 show Run _ _ _ [(0, i64.slot p_top), (1, i64.slot p_bottom), (2, i64.slot p_kind), (3, Qb.slot p_seed)] _
 refine rs <| rt <| jq (Q0 (ht rfl)) ?_
 refine jq (pa QcB) ?_
 refine jq (pa Qe) ?_
 refine Qd <| rs <| rs <| rt <| jm ?_
 refine jm ?_
 obtain ⟨r1, e1, h⟩ := bs h
 refine jq (pc tl2 (qZ hg0 e1)) ?_
 refine jq (ZJ (ht rfl) Qe) ?_
 refine Qd <| Qn (ht rfl) (fun e2 => ?_) (fun e2 => ?_)
 ·replace h := bt e2 h
  refine rs <| rt <| jq (pa QcB) ?_
  refine jq (pa Qe) ?_
  refine Qd ?_
  obtain rfl := oi h
  exact Qo fun a w hst => JV hst rfl (.cons (.tmp rfl) <| .cons (.tmp rfl) <| .nil) rfl 0 (fun _ _ h => h) (.nil)
 ·replace h := bf e2 h
  refine Qm <| rs <| rt <| jl ?_
  obtain ⟨r2, e3, h⟩ := bs h
  refine jq (pc (hc (ht rfl) <| hc (Bl (R := u8)) <| Q3) (Qbz hg1 hg2 e3)) ?_
  refine jm ?_
  refine jx ?_
  refine jx ?_
  refine al (x := (Vector.replicate 16 (0#8))) (R := QG) (QA 16 QH) fun b1 => ?_
  refine al (x := (Vector.replicate 32 (0#8))) (R := Qb) (QA 32 QH) fun b2 => ?_
  refine jk (r' := r2.1) (ht rfl) (ht rfl) (.next .here) .a ?_
  refine Jd (t := 10) .here (.of_lk rfl) ?_
  refine jk (r' := r2.2) (ht rfl) (ht rfl) .here .a ?_
  refine Jd (t := 11) .here (.of_lk rfl) ?_
  refine Qd <| rs <| rt <| jm ?_
  refine jm ?_
  refine jl ?_
  refine jl ?_
  obtain ⟨r3, e4, h⟩ := bs h
  refine jq (pc tl4 (Qdt hg0 hg1 hg2 e4)) ?_
  refine jm ?_
  refine jx ?_
  refine jx ?_
  refine ja ?_
  refine ja ?_
  refine Qd <| rs <| rs <| rt <| jm ?_
  refine jq (YG (ht rfl) Qe) ?_
  refine Qd <| Qn (ht rfl) (fun e5 => ?_) (fun e5 => ?_)
  ·replace h := bt e5 h
   refine rs <| rt <| jm ?_
   refine jq (pa QcB) ?_
   refine ja ?_
   refine Qd ?_
   obtain rfl := oi h
   exact Qo fun a w hst => JV hst rfl (.cons (.tmp rfl) <| .cons (.tmp rfl) <| .nil) rfl 0 (fun _ _ h => h) (.nil)
  ·replace h := bf e5 h
   refine Qm <| rs <| rt <| jm ?_
   refine jm ?_
   refine jl ?_
   refine jm ?_
   obtain ⟨x1, e6, h⟩ := bs h
   refine jq (PJ.eqv (JZ (R := Qaz) (Qk Qx (Qk Qx (Qk (QA 32 QH) (Qk QeT (Qk QeT Qx))))) (by kernel_rfl) (by kernel_rfl) rfl (.cons (ht rfl) .f (by kernel_rfl) (.cons (ht rfl) (.t .s .f) (by kernel_rfl) (.cons (ht rfl) (.t .s (.t .s .f)) (by kernel_rfl) (.cons (ht rfl) (.t .s (.t .s (.t .s .f))) (by kernel_rfl) (.cons Qe (.t .s (.t .s (.t .s (.t .s .s)))) (by kernel_rfl) .nil)))))) (oi e6)) ?_
   refine Bq (ht rfl) rfl fun b3 => ?_
   refine ja ?_
   refine jq (pa Qe) ?_
   refine Qd ?_
   obtain rfl := oi h
   exact Qo fun a w hst => JV hst rfl (.cons (.tmp rfl) <| .cons (.tmp rfl) <| .nil) rfl b3 (fun _ _ h => h) .h1
theorem K4 {G : GP} (hg0 : HG0 G) (hg1 : HG1 G) (hg2 : HG2 G) {r : (Int × Int × Qa × (Option Qy) × (Option Qy) × Int)} (h : YB = some r) : Ctr Tryz.prog G 18 [] [] (fun (u0 : Nat) => val (.pointer (some ⟨u0, 0, none⟩))) (fun (u0 : Nat) => [box u0 102 (prod i64 (prod i64 (prod Qb (prod (ptr QI) (prod (ptr QI) i64))))) (r.1, r.2.1, r.2.2.1, r.2.2.2.1, r.2.2.2.2.1, r.2.2.2.2.2)]) := by
 unfold YB at h
 refine Qp Tryz.func18 rfl 9 rfl rfl fun m0 w0 b0 => ?_
 show Run _ _ _ [] _
 refine rs <| rt <| jq (pa (Uw (R := Qaz))) ?_
 refine Qd <| rs <| rt ?_
 obtain ⟨x1, e1, h⟩ := bs h
 refine jq (PJ.eqv (JZ (R := Qb) (QA 32 QH) (by kernel_rfl) (by kernel_rfl) rfl (.cons (QE (x := 27#8) rfl) (Path.at 32 u8 0 (by decide)) (by kernel_rfl) .nil)) (oi e1)) ?_
 obtain ⟨r1, e2, h⟩ := bs h
 obtain ⟨x2, e3, h⟩ := bs h
 refine jc (hc Qe <| hc Qe <| hc Qe <| hc (ht rfl) <| Q3) (QhR hg0 hg1 hg2 (e2.trans (congrArg some (show r1 = (some x2, r1.2) from Prod.ext e3 rfl)))) .nil fun b1 => ?_
 refine jm ?_
 refine jx ?_
 refine jx ?_
 refine ja ?_
 refine ja ?_
 refine Qd <| rs <| rt <| jm ?_
 refine ja ?_
 refine Qd ?_
 obtain rfl := oi h
 exact Qo fun a w hst => QL hst rfl (.tmp rfl) b1 (fun _ _ h => h) .h1
theorem Qal {G : GP} {p_public : List (BitVec 8)} {r : ((List (BitVec 8)) × (List Qr) × (List Qw) × (List QB))} (h : Ua p_public = some r) : Ctr Tryz.prog G 19 [(sl u8).slot p_public] [] (fun (i : Nat × Value × Value × Value) => val (.pointer (some ⟨i.1, 0, none⟩))) (fun (i : Nat × Value × Value × Value) => [box i.1 116 (prod (sl u8) (prod (exv i.2.1) (prod (exv i.2.2.1) (exv i.2.2.2)))) (r.1, (), (), ()), own 33 Qg i.2.1 r.2.1, own 123 Qj i.2.2.1 r.2.2.1, own 130 Ql i.2.2.2 r.2.2.2]) := by
 unfold Ua at h
 refine Qp Tryz.func19 rfl 7 rfl rfl fun m0 w0 b0 => ?_
 show Run _ _ _ [(0, (sl u8).slot p_public)] _
 refine rs <| rt <| jq (pa (Uw (R := Ja))) ?_
 refine Qd <| rs <| rt <| jm ?_
 obtain ⟨r1, e1, h⟩ := bs h
 refine jq (pc tl1 (Ctr.froze (YT e1))) ?_
 refine KE 130 Ql none (KE 123 Qj none (KE 33 Qg none (jq (qf (R := (prod (sl u8) (prod (exv (.slice none 0 0)) (prod (exv ((.slice none 0 0))) (exv (((.slice none 0 0)))))))) (x := (([] : List (BitVec 8)), (), (), ())) (Qk Jp (Qk X4 (Qk X4 X4))) (by kernel_rfl) (by kernel_rfl) rfl (.cons (ht rfl) (KQ (x1 := (r1, (), (), ())) .f rfl) (by kernel_rfl) .nil)) ?_)))
 refine Bq (ht rfl) rfl fun b1 => ?_
 refine ja ?_
 refine Qd ?_
 obtain rfl := oi h
 exact Qo fun a w hst => QL hst rfl (.tmp rfl) (b1, (.slice none 0 0), ((.slice none 0 0)), (((.slice none 0 0)))) (fun _ _ h => h) .h4
theorem QcT {G : GP} {p_h : JO} {r : Bool} (h : KM p_h = some r) : Ctr Tryz.prog G 83 [Y0.slot p_h] [] (fun (_ : Unit) => bl.slot r) (fun (_ : Unit) => []) := by
 unfold KM at h
 refine Qp Tryz.func83 rfl 21 rfl rfl fun m0 w0 b0 => ?_
 show Run _ _ _ [(0, Y0.slot p_h)] _
 refine rs <| rt <| jq (Q0 (ht rfl)) ?_
 refine jq (pa QU) ?_
 refine Qd <| rs <| rt <| jq (pft (ht rfl) .f) ?_
 refine jl ?_
 refine jq (XF (ht rfl) Qe) ?_
 refine jm ?_
 obtain ⟨y1, e2, h⟩ := bs h
 refine Jz (ι := Unit) (Γ' := fun _ => [(1, Qt Y0 p_h), (10, bl.slot y1)]) (H' := fun _ => []) 4 ?_ fun J => ?_
 ·intro _
  clear e2
  show Jc _ _ _ [(1, Qt Y0 p_h), (10, bl.slot y1)] [] _
  refine jm ?_
  obtain ⟨y2, e4, h⟩ := bs h
  refine Jz (ι := Unit) (Γ' := fun _ => [(1, Qt Y0 p_h), (15, bl.slot y2)]) (H' := fun _ => []) 4 ?_ fun J => ?_
  ·intro _
   clear e4
   show Jc _ _ _ [(1, Qt Y0 p_h), (15, bl.slot y2)] [] _
   refine jm ?_
   obtain ⟨y3, e6, h⟩ := bs h
   refine Jz (ι := Unit) (Γ' := fun _ => [(20, bl.slot y3)]) (H' := fun _ => []) 4 ?_ fun J => ?_
   ·intro _
    clear e6
    show Jc _ _ _ [(20, bl.slot y3)] [] _
    refine ja ?_
    refine Qd ?_
    obtain rfl := oi h
    exact Qo fun a w hst => QL hst rfl (.tmp rfl) () (fun _ _ h => h) (.nil)
   ·rcases Jl (y2) with e5 | e5
    ·replace e6 := bt e5 e6
     refine jz (pft (ht rfl) (.t .s .f)) e5 ?_
     refine jz (plt (ht rfl)) e5 ?_
     refine jz (Q7 (ht rfl) Qe) e5 ?_
     refine jq (pk1 e5 (ht rfl) (oi e6)) ?_
     exact Je .k1 (.nil) (J ())
    ·replace e6 := bf e5 e6
     refine jn e5 ?_
     refine jn e5 ?_
     refine jn e5 ?_
     refine jq (pk2 e5 QU (oi e6)) ?_
     exact Je .k1 (.nil) (J ())
  ·rcases Jl (y1) with e3 | e3
   ·replace e4 := bt e3 e4
    refine jz (pft (ht rfl) (.t .s .f)) e3 ?_
    refine jz (plt (ht rfl)) e3 ?_
    refine jz (XF (ht rfl) Qe) e3 ?_
    refine jq (pk1 e3 (ht rfl) (oi e4)) ?_
    exact Je .k2 (.nil) (J ())
   ·replace e4 := bf e3 e4
    refine jn e3 ?_
    refine jn e3 ?_
    refine jn e3 ?_
    refine jq (pk2 e3 QU (oi e4)) ?_
    exact Je .k2 (.nil) (J ())
 ·rcases Jl (decide ((1 : Int) ≤ p_h.1)) with e1 | e1
  ·replace e2 := bt e1 e2
   refine jz (pft (ht rfl) .f) e1 ?_
   refine jz (plt (ht rfl)) e1 ?_
   refine jz (Q7 (ht rfl) Qe) e1 ?_
   refine jq (pk1 e1 (ht rfl) (oi e2)) ?_
   exact Je .k2 (.nil) (J ())
  ·replace e2 := bf e1 e2
   refine jn e1 ?_
   refine jn e1 ?_
   refine jn e1 ?_
   refine jq (pk2 e1 QU (oi e2)) ?_
   exact Je .k2 (.nil) (J ())
theorem qB {G : GP} {p_h : JO} {r : (List (BitVec 8)) × Int} (h : Kx p_h = some r) : Ctr Tryz.prog G 45 [Y0.slot p_h] [] (fun (u0 : Value) => tup [ov u0, i64.slot r.2]) (fun (u0 : Value) => [own 5 u8 u0 r.1]) := by
 unfold Kx at h
 refine Qp Tryz.func45 rfl 32 rfl rfl fun m0 w0 b0 => ?_
 show Run _ _ _ [(0, Y0.slot p_h)] _
 refine rs <| rt <| jq (Q0 (ht rfl)) ?_
 refine QN (T := 5) u8 rfl fun v1 => ?_
 refine jq (pa Qe) ?_
 refine Qd <| rs <| rs <| rt <| jl ?_
 obtain ⟨r1, e1, h⟩ := bs h
 refine jq (pc tl1 (QcT e1)) ?_
 refine jq (ZI (ht rfl)) ?_
 refine Qd <| Qn (ht rfl) (fun e2 => ?_) (fun e2 => ?_)
 ·replace h := bt e2 h
  refine rs <| rt <| QN (T := 5) u8 rfl fun v2 => ?_
  refine jq (pa Qe) ?_
  refine Qd ?_
  obtain rfl := oi h
  exact Qo fun a w hst => JV hst rfl (.cons (.tmp rfl) <| .cons (.tmp rfl) <| .nil) rfl v2 (fun _ _ h => h) .h1
 ·replace h := bf e2 h
  refine Qm <| rs <| rt <| jq (JZ (R := prod (exv (.slice none 0 0)) bl) (Qk X4 Bf) (by kernel_rfl) (by kernel_rfl) rfl .nil) ?_
  refine QaH (T1 := 5) u8 (ht rfl) rfl fun b1 v3 => ?_
  refine ja ?_
  refine Qd <| rs <| rt <| jm ?_
  refine jq (pft (ht rfl) .f) ?_
  refine jl ?_
  refine jq (Jo (k := .u32) (b := 32) rfl rfl (by kernel_rfl) (ht rfl) Qh) ?_
  obtain ⟨r2, e3, h⟩ := bs h
  refine jc tl2 (Z4 e3) (.cons (.next .here) <| .cons .here <| .nil) fun v4 => ?_
  refine Qd <| rs <| rt <| jm ?_
  refine jq (pft (ht rfl) (.t .s .f)) ?_
  refine jl ?_
  refine jq (Jo (k := .u32) (b := 32) rfl rfl (by kernel_rfl) (ht rfl) Qh) ?_
  obtain ⟨r3, e4, h⟩ := bs h
  refine jc tl2 (Z4 e4) .h2 fun v5 => ?_
  refine Qd <| rs <| rt <| jm ?_
  refine jq (pft (ht rfl) (.t .s (.t .s .f))) ?_
  refine jq (JA (ht rfl) (by decide) (by kernel_rfl)) ?_
  obtain ⟨r4, e5, h⟩ := bs h
  refine jc tl2 (J2 e5) .h2 fun v6 => ?_
  refine Qd <| rs <| rt <| jm ?_
  refine jq (pft (ht rfl) (.t .s (.t .s .s))) ?_
  refine jq (JA (ht rfl) (by decide) (by kernel_rfl)) ?_
  obtain ⟨r5, e6, h⟩ := bs h
  refine jc tl2 (J2 e6) .h2 fun v7 => ?_
  refine Qd <| rs <| rt <| jm ?_
  obtain ⟨r6, e7, h⟩ := bs h
  refine jc tl1 (XO e7) .h2 fun ⟨v8, v9⟩ => ?_
  refine jx ?_
  refine jx ?_
  refine ja ?_
  refine ja ?_
  refine Qd ?_
  obtain rfl := oi h
  exact Qo fun a w hst => JV hst rfl (.cons (.tmp rfl) <| .cons (.tmp rfl) <| .nil) rfl v9 (fun _ _ h => h) (.cons (.next (.next .here)) <| .nil)
theorem Ui {G : GP} {p_b : List (BitVec 8)} {r : ((List (BitVec 8)) × Bool)} (h : Kg p_b = some r) : Ctr Tryz.prog G 94 [(sl u8).slot p_b] [] (fun (u0 : Nat) => val (.pointer (some ⟨u0, 0, none⟩))) (fun (u0 : Nat) => [box u0 208 (prod (sl u8) bl) (r.1, r.2)]) := by
 unfold Kg at h
 refine Qp Tryz.func94 rfl 7 rfl rfl fun m0 w0 b0 => ?_
 show Run _ _ _ [(0, (sl u8).slot p_b)] _
 refine rs <| rt <| jq (pa (Uw (R := qE))) ?_
 refine Qd <| rs <| rt <| jm ?_
 obtain ⟨r1, e1, h⟩ := bs h
 refine jq (pc tl1 (Ctr.froze (YT e1))) ?_
 obtain ⟨x1, e2, h⟩ := bs h
 refine jq (PJ.eqv (JZ (R := qE) (Qk Jp Bf) (by kernel_rfl) (by kernel_rfl) rfl (.cons (ht rfl) .f (by kernel_rfl) .nil)) (oi e2)) ?_
 refine Bq (ht rfl) rfl fun b1 => ?_
 refine ja ?_
 refine Qd ?_
 obtain rfl := oi h
 exact Qo fun a w hst => QL hst rfl (.tmp rfl) b1 (fun _ _ h => h) .h1
theorem UI {G : GP} {p_r : (List (BitVec 8)) × Bool} {p_n : Int} {b_r : Nat} {r : ((List (BitVec 8)) × Bool) × (List (BitVec 8))} (h : Zn p_r p_n = some r) : Ctr Tryz.prog G 142 [val (.pointer (some ⟨b_r, 0, none⟩)), i64.slot p_n] [box b_r 208 (prod (sl u8) bl) (p_r.1, p_r.2)] (fun (_ : Unit) => (sl u8).slot r.2) (fun (_ : Unit) => [box b_r 208 (prod (sl u8) bl) (r.1.1, r.1.2)]) := by
 unfold Zn at h
 refine Qp Tryz.func142 rfl 45 rfl rfl fun m0 w0 b0 => ?_
 show Run _ _ _ [(0, val (.pointer (some ⟨b_r, 0, none⟩))), (1, i64.slot p_n)] _
 refine rs <| rt <| jq (pa (Bl (R := u8))) ?_
 refine Qd <| rs <| rs <| rt <| jm ?_
 refine jq (Zl (E := 208) (by kernel_rfl) (ht rfl)) ?_
 refine jm ?_
 obtain ⟨y1, e2, h⟩ := bs h
 refine Jz (ι := Unit) (Γ' := fun _ => [(0, val (.pointer (some ⟨b_r, 0, none⟩))), (1, i64.slot p_n), (13, bl.slot y1)]) (H' := fun _ => [box b_r 208 (prod (sl u8) bl) (p_r.1, p_r.2)]) 5 ?_ fun J => ?_
 ·intro _
  clear e2
  show Jc _ _ _ [(0, val (.pointer (some ⟨b_r, 0, none⟩))), (1, i64.slot p_n), (13, bl.slot y1)] [box b_r 208 (prod (sl u8) bl) (p_r.1, p_r.2)] _
  refine Qd <| Qn (ht rfl) (fun e3 => ?_) (fun e3 => ?_)
  ·replace h := bt e3 h
   refine rs <| rt <| jq (pa (Bl (R := u8))) ?_
   refine Qd ?_
   obtain rfl := oi h
   exact Qo fun a w hst => QL hst rfl (.tmp rfl) () (fun _ _ h => h) .h1
  ·replace h := bf e3 h
   refine Qm <| rs <| rs <| rt <| jm ?_
   refine jq (Q7 (ht rfl) Qe) ?_
   refine jm ?_
   obtain ⟨y2, e5, h⟩ := bs h
   refine Jz (ι := Unit) (Γ' := fun _ => [(0, val (.pointer (some ⟨b_r, 0, none⟩))), (1, i64.slot p_n), (24, bl.slot y2)]) (H' := fun _ => [box b_r 208 (prod (sl u8) bl) (p_r.1, p_r.2)]) 8 ?_ fun J => ?_
   ·intro _
    clear e5
    show Jc _ _ _ [(0, val (.pointer (some ⟨b_r, 0, none⟩))), (1, i64.slot p_n), (24, bl.slot y2)] [box b_r 208 (prod (sl u8) bl) (p_r.1, p_r.2)] _
    refine Qd <| Qn (ht rfl) (fun e6 => ?_) (fun e6 => ?_)
    ·replace h := bt e6 h
     refine rs <| rt <| jm ?_
     refine jq (Qv (ht rfl)) ?_
     refine jq (pfp (off := 1) (ht rfl)) ?_
     refine jk (r' := (p_r.1, true)) (ht rfl) QU .here (.t .a .s) ?_
     refine Qd <| rs <| rt <| jq (pa (Bl (R := u8))) ?_
     refine Qd ?_
     obtain rfl := oi h
     exact Qo fun a w hst => QL hst rfl (.tmp rfl) () (fun _ _ h => h) .h1
    ·replace h := bf e6 h
     refine Qm <| rs <| rt <| jm ?_
     refine jq (Qv (ht rfl)) ?_
     refine jq (pfp (off := 0) (ht rfl)) ?_
     refine jq (plb (ht rfl) .here (.t .a .f)) ?_
     refine jm ?_
     refine jm ?_
     obtain ⟨x1, e7, h⟩ := bs h
     refine jq (QhT (ht rfl) (ht rfl) (ht rfl) e7 (by kernel_rfl)) ?_
     refine ja ?_
     refine Qd <| rs <| rt <| jm ?_
     refine jm ?_
     refine jq (Qv (ht rfl)) ?_
     refine jq (pfp (off := 0) (ht rfl)) ?_
     refine jq (plb (ht rfl) .here (.t .a .f)) ?_
     refine jm ?_
     obtain ⟨x2, e8, h⟩ := bs h
     refine jq (ZH (ht rfl) (.yes (ht rfl) Qh) .no e8 (by kernel_rfl)) ?_
     refine jq (Qv (ht rfl)) ?_
     refine jq (pfp (off := 0) (ht rfl)) ?_
     refine jk (r' := (x2, p_r.2)) (ht rfl) (ht rfl) .here (.t .a .f) ?_
     refine Qd <| rs <| rt <| jm ?_
     refine ja ?_
     refine Qd ?_
     obtain rfl := oi h
     exact Qo fun a w hst => QL hst rfl (.tmp rfl) () (fun _ _ h => h) .h1
   ·rcases Jl (decide (p_n < (0 : Int))) with e4 | e4
    ·replace e5 := bt e4 e5
     refine jN e4 ?_
     refine jN e4 ?_
     refine jN e4 ?_
     refine jN e4 ?_
     refine jN e4 ?_
     refine jN e4 ?_
     refine jN e4 ?_
     refine jq (pk1 e4 QU (oi e5)) ?_
     exact Je .k3 .h1 (J ())
    ·replace e5 := bf e4 e5
     refine jz (pm (ht rfl)) e4 ?_
     refine jz (pm (ht rfl)) e4 ?_
     refine jz (Qv (ht rfl)) e4 ?_
     refine jz (pfp (off := 0) (ht rfl)) e4 ?_
     refine jz (plb (ht rfl) .here (.t .a .f)) e4 ?_
     refine jz (QX (sz := 1) (ht rfl) (by kernel_rfl)) e4 ?_
     refine jz (Xt (ht rfl) (ht rfl)) e4 ?_
     refine jq (pk2 e4 (ht rfl) (oi e5)) ?_
     exact Je .k3 .h1 (J ())
 ·have e1 : (false) = false := rfl
  refine jz (pm (ht rfl)) e1 ?_
  refine jz (Qv (ht rfl)) e1 ?_
  refine jz (pfp (off := 1) (ht rfl)) e1 ?_
  refine jz (plb (ht rfl) .here (.t .a .s)) e1 ?_
  refine jq (pk2 e1 (ht rfl) (oi e2)) ?_
  exact Je .k3 .h1 (J ())
theorem qP {G : GP} {p_r : (List (BitVec 8)) × Bool} {p_bytes : Int} {b_r : Nat} {c_r : List Value} {r : (BitVec 64) × Bool} (h : YR p_r p_bytes = some r) : Ctr Tryz.prog G 169 [val (.pointer (some ⟨b_r, 0, none⟩)), i64.slot p_bytes] [box b_r 208 (exr (prod (sl u8) bl) c_r) (p_r.1, p_r.2)] (fun (_ : Unit) => tup [u64.slot r.1, bl.slot r.2]) (fun (_ : Unit) => [box b_r 208 (exr (prod (sl u8) bl) c_r) (p_r.1, p_r.2)]) := by
 unfold YR at h
 refine Qp Tryz.func169 rfl 44 rfl rfl fun m0 w0 b0 => ?_
 show Run _ _ _ [(0, val (.pointer (some ⟨b_r, 0, none⟩))), (1, i64.slot p_bytes)] _
 refine rs <| rt <| jq (PJ.xw (.ex .refl) (pa (QE (x := 0#64) rfl))) ?_
 refine jq (PJ.xw (.ex .refl) (pa QU)) ?_
 refine Qd <| rs <| rs <| rt <| jq (PJ.xw (.ex .refl) (pm (ht rfl))) ?_
 refine jq (PJ.xw (.ex .refl) (Zl (E := 208) (by kernel_rfl) (ht rfl))) ?_
 refine jq (PJ.xw (.ex .refl) (pm (ht rfl))) ?_
 obtain ⟨y1, e2, h⟩ := bs h
 refine Jz (ι := Unit) (Γ' := fun _ => [(0, val (.pointer (some ⟨b_r, 0, none⟩))), (1, i64.slot p_bytes), (16, bl.slot y1)]) (H' := fun _ => [box b_r 208 (exr (prod (sl u8) bl) c_r) (p_r.1, p_r.2)]) 5 ?_ fun J => ?_
 ·intro _
  clear e2
  show Jc _ _ _ [(0, val (.pointer (some ⟨b_r, 0, none⟩))), (1, i64.slot p_bytes), (16, bl.slot y1)] [box b_r 208 (exr (prod (sl u8) bl) c_r) (p_r.1, p_r.2)] _
  refine jq (PJ.xw (.ex .refl) (pm (ht rfl))) ?_
  obtain ⟨y2, e4, h⟩ := bs h
  refine Jz (ι := Unit) (Γ' := fun _ => [(0, val (.pointer (some ⟨b_r, 0, none⟩))), (1, i64.slot p_bytes), (25, bl.slot y2)]) (H' := fun _ => [box b_r 208 (exr (prod (sl u8) bl) c_r) (p_r.1, p_r.2)]) 8 ?_ fun J => ?_
  ·intro _
   clear e4
   show Jc _ _ _ [(0, val (.pointer (some ⟨b_r, 0, none⟩))), (1, i64.slot p_bytes), (25, bl.slot y2)] [box b_r 208 (exr (prod (sl u8) bl) c_r) (p_r.1, p_r.2)] _
   refine Qd <| Qn (ht rfl) (fun e5 => ?_) (fun e5 => ?_)
   ·replace h := bt e5 h
    refine rs <| rt <| jq (PJ.xw (.ex .refl) (pa (QE (x := 0#64) rfl))) ?_
    refine jq (PJ.xw (.ex .refl) (pa QU)) ?_
    refine Qd ?_
    obtain rfl := oi h
    exact Qo fun a w hst => JV hst rfl (.cons (.tmp rfl) <| .cons (.tmp rfl) <| .nil) rfl () (fun _ _ h => h) .h1
   ·replace h := bf e5 h
    refine Qm <| rs <| rt <| jq (PJ.xw (.ex .refl) (pa (QE (x := 0#64) rfl))) ?_
    refine Qd <| rs <| rs <| rt <| jq (PJ.xw (.ex .refl) (pm (ht rfl))) ?_
    refine jq (PJ.xw (.ex .refl) (Qv (ht rfl))) ?_
    refine jq (PJ.xw (.ex .refl) (pfp (off := 0) (ht rfl))) ?_
    refine jq (PJ.xw (.ex .refl) (plb (ht rfl) .here (.t .a .f))) ?_
    refine jq (PJ.xw (.ex .refl) (pm (ht rfl))) ?_
    obtain ⟨x1, e6, h⟩ := bs h
    refine jq (PJ.xw (.ex .refl) (ZH (ht rfl) .no (.yes (ht rfl) Qh) e6 (by kernel_rfl))) ?_
    refine jq (PJ.xw (.ex .refl) (QX (sz := 1) (ht rfl) (by kernel_rfl))) ?_
    refine jq (PJ.xw (.ex .refl) (pm Qe)) ?_
    refine Qd ?_
    obtain ⟨⟨y5, y6⟩, e9, h⟩ := bs h
    refine Q2 (Γi := fun (i : Unit) (s : (BitVec 64) × Int) => [(6, u64.slot s.1), (31, (sl u8).slot x1), (32, i64.slot (x1.length : Int)), (33, i64.slot s.2)]) (Hi := fun (i : Unit) (s : (BitVec 64) × Int) => [box b_r 208 (exr (prod (sl u8) bl) c_r) (p_r.1, p_r.2)]) e9 () (fun a w hst => (hst.sub .k4).keep .h1) ?_ ?_
    ·clear h e9
     rintro _ ⟨y3, y4⟩ lr h
     change Z0 x1 y3 y4 = some _ at h
     show Run _ _ _ [(6, u64.slot y3), (31, (sl u8).slot x1), (32, i64.slot (x1.length : Int)), (33, i64.slot y4)] [box b_r 208 (exr (prod (sl u8) bl) c_r) (p_r.1, p_r.2)]
     unfold Z0 at h
     refine rs <| rt <| jq (PJ.xw (.ex .refl) (Q7 (ht rfl) (ht rfl))) ?_
     refine Qd <| rs <| Qn (ht rfl) (fun e7 => ?_) (fun e7 => ?_)
     ·replace h := bt e7 h
      refine Qm <| rs <| QJ <| rs <| rt ?_
      obtain ⟨x2, e8, h⟩ := bs h
      refine jq (PJ.xw (.ex .refl) (pix (ht rfl) (ht rfl) Qh e8)) ?_
      refine jq (PJ.xw (.ex .refl) (plt (ht rfl))) ?_
      refine jq (PJ.xw (.ex .refl) (pa (ht rfl))) ?_
      refine Qd <| rt <| jq (PJ.xw (.ex .refl) (pm (ht rfl))) ?_
      refine jq (PJ.xw (.ex .refl) (QaB (k := .u64) (b := 64) rfl rfl (ht rfl) (QE (x := 8#64) rfl) JY (Int.natCast_nonneg _))) ?_
      refine jq (PJ.xw (.ex .refl) (pm (ht rfl))) ?_
      refine jq (PJ.xw (.ex .refl) (Zi (k := .u64) (b := 64) rfl rfl (by kernel_rfl) (ht rfl))) ?_
      refine jq (PJ.xw (.ex .refl) (Bc (k := .u64) (b := 64) rfl rfl (ht rfl) (ht rfl))) ?_
      refine jq (PJ.xw (.ex .refl) (pa (ht rfl))) ?_
      refine Qd <| Qs <| rt <| jq (PJ.xw (.ex .refl) (QW (ht rfl) Qe)) ?_
      refine jq (PJ.xw (.ex .refl) (pm (ht rfl))) ?_
      refine Qd ?_
      obtain rfl := oi h
      exact QZ () .k4 .h1
     ·replace h := bf e7 h
      obtain rfl := oi h
      exact Jf () .k4 .h1
    ·rintro _
     show Run _ _ _ [(6, u64.slot y5), (31, (sl u8).slot x1), (32, i64.slot (x1.length : Int)), (33, i64.slot y6)] [box b_r 208 (exr (prod (sl u8) bl) c_r) (p_r.1, p_r.2)]
     refine Q9 (Γ' := [(6, u64.slot y5)]) (H' := [box b_r 208 (exr (prod (sl u8) bl) c_r) (p_r.1, p_r.2)]) .k1 .h1 ?_
     refine rs <| rt <| jq (PJ.xw (.ex .refl) (pm (ht rfl))) ?_
     refine jq (PJ.xw (.ex .refl) (pa (ht rfl))) ?_
     refine jq (PJ.xw (.ex .refl) (pa QU)) ?_
     refine Qd ?_
     obtain rfl := oi h
     exact Qo fun a w hst => JV hst rfl (.cons (.tmp rfl) <| .cons (.tmp rfl) <| .nil) rfl () (fun _ _ h => h) .h1
  ·rcases Jl (y1) with e3 | e3
   ·replace e4 := bt e3 e4
    refine jN e3 ?_
    refine jN e3 ?_
    refine jN e3 ?_
    refine jN e3 ?_
    refine jN e3 ?_
    refine jN e3 ?_
    refine jN e3 ?_
    refine jq (pk1 e3 QU (oi e4)) ?_
    exact Je .k3 .h1 (J ())
   ·replace e4 := bf e3 e4
    refine jz (PJ.xw (.ex .refl) (pm (ht rfl))) e3 ?_
    refine jz (PJ.xw (.ex .refl) (Qv (ht rfl))) e3 ?_
    refine jz (PJ.xw (.ex .refl) (pfp (off := 0) (ht rfl))) e3 ?_
    refine jz (PJ.xw (.ex .refl) (plb (ht rfl) .here (.t .a .f))) e3 ?_
    refine jz (PJ.xw (.ex .refl) (QX (sz := 1) (ht rfl) (by kernel_rfl))) e3 ?_
    refine jz (PJ.xw (.ex .refl) (pm (ht rfl))) e3 ?_
    refine jz (PJ.xw (.ex .refl) (Q7 (ht rfl) (ht rfl))) e3 ?_
    refine jq (pk2 e3 (ht rfl) (oi e4)) ?_
    exact Je .k3 .h1 (J ())
 ·have e1 : (false) = false := rfl
  refine jz (PJ.xw (.ex .refl) (pm (ht rfl))) e1 ?_
  refine jz (PJ.xw (.ex .refl) (Qv (ht rfl))) e1 ?_
  refine jz (PJ.xw (.ex .refl) (pfp (off := 1) (ht rfl))) e1 ?_
  refine jz (PJ.xw (.ex .refl) (plb (ht rfl) .here (.t .a .s))) e1 ?_
  refine jq (pk2 e1 (ht rfl) (oi e2)) ?_
  exact Je .k3 .h1 (J ())
theorem BR {G : GP} {p_r : (List (BitVec 8)) × Bool} {p_bytes : Int} {b_r : Nat} {r : ((List (BitVec 8)) × Bool) × (BitVec 64)} (h : ZL p_r p_bytes = some r) : Ctr Tryz.prog G 141 [val (.pointer (some ⟨b_r, 0, none⟩)), i64.slot p_bytes] [box b_r 208 (prod (sl u8) bl) (p_r.1, p_r.2)] (fun (_ : Unit) => u64.slot r.2) (fun (_ : Unit) => [box b_r 208 (prod (sl u8) bl) (r.1.1, r.1.2)]) := by
 unfold ZL at h
 refine Qp Tryz.func141 rfl 19 rfl rfl fun m0 w0 b0 => ?_
 show Run _ _ _ [(0, val (.pointer (some ⟨b_r, 0, none⟩))), (1, i64.slot p_bytes)] _
 refine rs <| rt <| jq (pa (QE (x := 0#64) rfl)) ?_
 refine Qd <| rs <| rt <| jm ?_
 refine jm ?_
 obtain ⟨r1, e1, h⟩ := bs h
 refine jq (Vo tl2 .here (by kernel_rfl) (fun _ => (qP e1))) ?_
 refine jm ?_
 refine jx ?_
 refine jx ?_
 refine ja ?_
 refine ja ?_
 refine Qd <| rs <| rs <| rt <| jm ?_
 refine jm ?_
 obtain ⟨r2, e2, h⟩ := bs h
 refine jc tl2 (UI e2) .h1 fun _ => ?_
 refine Qd <| rs <| rt <| jm ?_
 refine jq (ZI (ht rfl)) ?_
 refine Qd <| Qn (ht rfl) (fun e3 => ?_) (fun e3 => ?_)
 ·replace h := bt e3 h
  refine rs <| rt <| jq (pa (QE (x := 0#64) rfl)) ?_
  refine Qd ?_
  obtain rfl := oi h
  exact Qo fun a w hst => QL hst rfl (.tmp rfl) () (fun _ _ h => h) .h1
 ·replace h := bf e3 h
  refine Qm <| rs <| rt <| jm ?_
  refine ja ?_
  refine Qd ?_
  obtain rfl := oi h
  exact Qo fun a w hst => QL hst rfl (.tmp rfl) () (fun _ _ h => h) .h1
theorem Zk {G : GP} {p_r : (List (BitVec 8)) × Bool} {b_r : Nat} {r : ((List (BitVec 8)) × Bool) × (BitVec 32)} (h : Jb p_r = some r) : Ctr Tryz.prog G 95 [val (.pointer (some ⟨b_r, 0, none⟩))] [box b_r 208 (prod (sl u8) bl) (p_r.1, p_r.2)] (fun (_ : Unit) => u32.slot r.2) (fun (_ : Unit) => [box b_r 208 (prod (sl u8) bl) (r.1.1, r.1.2)]) := by
 unfold Jb at h
 refine Qp Tryz.func95 rfl 6 rfl rfl fun m0 w0 b0 => ?_
 show Run _ _ _ [(0, val (.pointer (some ⟨b_r, 0, none⟩)))] _
 refine rs <| rt <| jq (pa (QE (x := 0#32) rfl)) ?_
 refine Qd <| rs <| rt <| jm ?_
 obtain ⟨r1, e1, h⟩ := bs h
 refine jc (hc (ht rfl) <| hc Qe <| Q3) (BR e1) .h1 fun _ => ?_
 refine jq (Zi (k := .u32) (b := 32) rfl rfl (by kernel_rfl) (ht rfl)) ?_
 refine ja ?_
 refine Qd ?_
 obtain rfl := oi h
 exact Qo fun a w hst => QL hst rfl (.tmp rfl) () (fun _ _ h => h) .h1
theorem Zf {G : GP} {p_r : (List (BitVec 8)) × Bool} {p_n : Int} {b_r : Nat} {r : ((List (BitVec 8)) × Bool) × (List (BitVec 8))} (h : QR p_r p_n = some r) : Ctr Tryz.prog G 96 [val (.pointer (some ⟨b_r, 0, none⟩)), i64.slot p_n] [box b_r 208 (prod (sl u8) bl) (p_r.1, p_r.2)] (fun (_ : Unit) => (sl u8).slot r.2) (fun (_ : Unit) => [box b_r 208 (prod (sl u8) bl) (r.1.1, r.1.2)]) := by
 unfold QR at h
 refine Qp Tryz.func96 rfl 8 rfl rfl fun m0 w0 b0 => ?_
 show Run _ _ _ [(0, val (.pointer (some ⟨b_r, 0, none⟩))), (1, i64.slot p_n)] _
 refine rs <| rt <| jq (pa (Bl (R := u8))) ?_
 refine Qd <| rs <| rt <| jm ?_
 refine jm ?_
 obtain ⟨r1, e1, h⟩ := bs h
 refine jc tl2 (UI e1) .h1 fun _ => ?_
 refine ja ?_
 refine Qd ?_
 obtain rfl := oi h
 exact Qo fun a w hst => QL hst rfl (.tmp rfl) () (fun _ _ h => h) .h1
theorem Wb {G : GP} {p_r : (List (BitVec 8)) × Bool} {b_r : Nat} {c_r : List Value} {r : Int} (h : Zw p_r = some r) : Ctr Tryz.prog G 97 [val (.pointer (some ⟨b_r, 0, none⟩))] [box b_r 208 (exr (prod (sl u8) bl) c_r) (p_r.1, p_r.2)] (fun (_ : Unit) => i64.slot r) (fun (_ : Unit) => [box b_r 208 (exr (prod (sl u8) bl) c_r) (p_r.1, p_r.2)]) := by
 unfold Zw at h
 refine Qp Tryz.func97 rfl 10 rfl rfl fun m0 w0 b0 => ?_
 show Run _ _ _ [(0, val (.pointer (some ⟨b_r, 0, none⟩)))] _
 refine rs <| rt <| jq (PJ.xw (.ex .refl) (pa Qe)) ?_
 refine Qd <| rs <| rs <| rt <| jq (PJ.xw (.ex .refl) (pm (ht rfl))) ?_
 refine jq (PJ.xw (.ex .refl) (Zl (E := 208) (by kernel_rfl) (ht rfl))) ?_
 refine Qd <| Yi (ht rfl) rfl ?_
 refine Qm <| rs <| rt <| jq (PJ.xw (.ex .refl) (pm (ht rfl))) ?_
 refine jq (PJ.xw (.ex .refl) (Qv (ht rfl))) ?_
 refine jq (PJ.xw (.ex .refl) (pfp (off := 0) (ht rfl))) ?_
 refine jq (PJ.xw (.ex .refl) (plb (ht rfl) .here (.t .a .f))) ?_
 refine jq (PJ.xw (.ex .refl) (QX (sz := 1) (ht rfl) (by kernel_rfl))) ?_
 refine jq (PJ.xw (.ex .refl) (pa (ht rfl))) ?_
 refine Qd ?_
 obtain rfl := oi h
 exact Qo fun a w hst => QL hst rfl (.tmp rfl) () (fun _ _ h => h) .h1
theorem UM {G : GP} {p_r : (List (BitVec 8)) × Bool} {b_r : Nat} {c_r : List Value} {r : Bool} (h : Zm p_r = some r) : Ctr Tryz.prog G 98 [val (.pointer (some ⟨b_r, 0, none⟩))] [box b_r 208 (exr (prod (sl u8) bl) c_r) (p_r.1, p_r.2)] (fun (_ : Unit) => bl.slot r) (fun (_ : Unit) => [box b_r 208 (exr (prod (sl u8) bl) c_r) (p_r.1, p_r.2)]) := by
 unfold Zm at h
 refine Qp Tryz.func98 rfl 11 rfl rfl fun m0 w0 b0 => ?_
 show Run _ _ _ [(0, val (.pointer (some ⟨b_r, 0, none⟩)))] _
 refine rs <| rt <| jq (PJ.xw (.ex .refl) (pa QU)) ?_
 refine Qd <| rs <| rt <| jq (PJ.xw (.ex .refl) (pm (ht rfl))) ?_
 refine jq (PJ.xw (.ex .refl) (Zl (E := 208) (by kernel_rfl) (ht rfl))) ?_
 refine jq (PJ.xw (.ex .refl) (pm (ht rfl))) ?_
 obtain ⟨y1, e2, h⟩ := bs h
 refine Jz (ι := Unit) (Γ' := fun _ => [(10, bl.slot y1)]) (H' := fun _ => [box b_r 208 (exr (prod (sl u8) bl) c_r) (p_r.1, p_r.2)]) 5 ?_ fun J => ?_
 ·intro _
  clear e2
  show Jc _ _ _ [(10, bl.slot y1)] [box b_r 208 (exr (prod (sl u8) bl) c_r) (p_r.1, p_r.2)] _
  refine jq (PJ.xw (.ex .refl) (pa (ht rfl))) ?_
  refine Qd ?_
  obtain rfl := oi h
  exact Qo fun a w hst => QL hst rfl (.tmp rfl) () (fun _ _ h => h) .h1
 ·have e1 : (false) = false := rfl
  refine jz (PJ.xw (.ex .refl) (pm (ht rfl))) e1 ?_
  refine jz (PJ.xw (.ex .refl) (Qv (ht rfl))) e1 ?_
  refine jz (PJ.xw (.ex .refl) (pfp (off := 1) (ht rfl))) e1 ?_
  refine jz (PJ.xw (.ex .refl) (plb (ht rfl) .here (.t .a .s))) e1 ?_
  refine jq (pk2 e1 (ht rfl) (oi e2)) ?_
  exact Je .k1 .h1 (J ())
end Go.Sl.W
