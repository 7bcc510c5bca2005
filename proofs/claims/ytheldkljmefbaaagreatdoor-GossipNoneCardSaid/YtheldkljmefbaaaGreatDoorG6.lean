import Derived.Test.YtheldkljmefbaaaGreatDoorG5
import Derived.Test.YtheldkljmefbaaaGreatDoorG2
import Derived.Test.YtheldkljmefbaaaGreatDoorProg
set_option linter.unusedSimpArgs false
set_option linter.unusedVariables false
set_option linter.unusedSectionVars false
namespace Go.Sl.W
open Go.Proofs Go.Sl Go.Sl.M
set_option maxRecDepth 100000 in
set_option maxHeartbeats 4000000 in
theorem c_wire_Reader_Done {G : GP} {p_r : (List (BitVec 8)) × Bool} {b_r : Nat} {c_r : List Value} {r : Bool} (h : wire_Reader_Done p_r = some r) : Ctr Tryz.prog G 170 [val (.pointer (some ⟨b_r, 0, none⟩))] [box b_r 208 (exr (prod (sl u8) bl) c_r) (p_r.1, p_r.2)] (fun (_ : Unit) => bl.slot r) (fun (_ : Unit) => [box b_r 208 (exr (prod (sl u8) bl) c_r) (p_r.1, p_r.2)]) := by
  unfold wire_Reader_Done at h
  refine ctr_of_run Tryz.func170 rfl 11 rfl rfl fun m0 w0 b0 => ?_
  show Run _ _ _ [(0, val (.pointer (some ⟨b_r, 0, none⟩)))] _
  refine rs ?_
  refine rt ?_
  refine jp (PJ.xw (.ex .refl) (pa has_bl)) rfl rfl rfl ?_
  refine j_end ?_
  refine rs ?_
  refine rt ?_
  refine jp (PJ.xw (.ex .refl) (pm (ht rfl))) rfl rfl rfl ?_
  obtain ⟨r1, e1, h⟩ := bind_some h
  refine jp (PJ.xw (.ex .refl) (pj_callR (hc (ht rfl) <| hasL_nil) .here (by kernel_rfl) (fun _ => (c_wire_Reader_Fails e1)))) rfl rfl rfl ?_
  refine jp (PJ.xw (.ex .refl) (pj_not (ht rfl))) rfl rfl rfl ?_
  refine jp (PJ.xw (.ex .refl) (pm (ht rfl))) rfl rfl rfl ?_
  obtain ⟨y1, e3, h⟩ := bind_some h
  refine j_joinx (ι := Unit) (Γ' := fun _ => [(10, bl.slot y1)]) (H' := fun _ => [box b_r 208 (exr (prod (sl u8) bl) c_r) (p_r.1, p_r.2)]) 4 ?_ fun J => ?_
  · intro _
    clear e3
    show OpsJ _ _ _ [(10, bl.slot y1)] [box b_r 208 (exr (prod (sl u8) bl) c_r) (p_r.1, p_r.2)] _
    refine jp (PJ.xw (.ex .refl) (pa (ht rfl))) rfl rfl rfl ?_
    refine j_end ?_
    obtain rfl := oi h
    exact run_ret fun a w hst => q_ret1 hst rfl (.tmp rfl) () (fun _ _ h => h) (.cons .here <| .nil)
  · rcases bool_tf (!r1) with e2 | e2
    · replace e3 := bt e2 e3
      refine jy (PJ.xw (.ex .refl) (pm (ht rfl))) rfl rfl rfl rfl (bl_isx e2) rfl rfl ?_
      obtain ⟨r2, e4, e3⟩ := bind_some e3
      refine jy (PJ.xw (.ex .refl) (pj_callR (hc (ht rfl) <| hasL_nil) .here (by kernel_rfl) (fun _ => (c_wire_Reader_Left e4)))) rfl rfl rfl rfl (bl_isx e2) rfl rfl ?_
      refine jy (PJ.xw (.ex .refl) (pj_ieql (ht rfl) has_i64)) rfl rfl rfl rfl (bl_isx e2) rfl rfl ?_
      refine jp (PJ.eqv (R := bl) (pj_pick (t := any) (ht rfl) (fun _ => (ht rfl)) (fun he => absurd (e2.symm.trans he) (by decide))) (oi e3)) rfl rfl rfl ?_
      exact j_to (.cons (.of_lk rfl) <| .nil) (.cons .here <| .nil) (J ())
    · replace e3 := bf e2 e3
      refine j_guard_no2 (j := 3) (want := true) rfl rfl rfl rfl (bl_isx e2) rfl rfl rfl ?_
      refine j_guard_no2 (j := 3) (want := true) rfl rfl rfl rfl (bl_isx e2) rfl rfl rfl ?_
      refine j_guard_no2 (j := 3) (want := true) rfl rfl rfl rfl (bl_isx e2) rfl rfl rfl ?_
      refine jp (PJ.eqv (R := bl) (pj_pick (t := any) (ht rfl) (fun he => absurd (e2.symm.trans he) (by decide)) (fun _ => has_bl)) (oi e3)) rfl rfl rfl ?_
      exact j_to (.cons (.of_lk rfl) <| .nil) (.cons .here <| .nil) (J ())
set_option maxRecDepth 100000 in
set_option maxHeartbeats 4000000 in
theorem c_lms_parted {G : GP} (hg0 : HG0 G) {p_b : List (BitVec 8)} {p_height : Int} {p_kind : Int} {r : T_lms_signature × Bool} (h : lms_parted p_b p_height p_kind = some r) : Ctr Tryz.prog G 143 [(sl u8).slot p_b, i64.slot p_height, i64.slot p_kind] [] (fun (_ : Unit) => tup [R_lms_signature.slot r.1, bl.slot r.2]) (fun (_ : Unit) => []) := by
  unfold lms_parted at h
  refine ctr_of_run Tryz.func143 rfl 68 rfl rfl fun m0 w0 b0 => ?_
  show Run _ _ _ [(0, (sl u8).slot p_b), (1, i64.slot p_height), (2, i64.slot p_kind)] _
  refine rs ?_
  refine rt ?_
  refine j_alloc (x := (0, ([] : List (BitVec 8)), ([] : List T_api_Hash))) (R := R_lms_signature) (zero_prod zero_i64 (zero_prod zero_sl zero_sl)) (by kernel_rfl) rfl fun b1 => ?_
  refine jp (pa has_bl) rfl rfl rfl ?_
  refine j_end ?_
  refine rs ?_
  refine rs ?_
  refine rt ?_
  refine jp (pm (ht rfl)) rfl rfl rfl ?_
  refine jp (pj_len_sl (sz := 1) (ht rfl) (by kernel_rfl)) rfl rfl rfl ?_
  refine jp (pm (ht rfl)) rfl rfl rfl ?_
  refine jp (pm (ht rfl)) rfl rfl rfl ?_
  obtain ⟨r1, e1, h⟩ := bind_some h
  refine jp (pj_call (hc (ht rfl) <| hc (ht rfl) <| hasL_nil) (by kernel_rfl) (c_lms_Size hg0 e1)) rfl rfl rfl ?_
  refine jp (pj_ineq (ht rfl) (ht rfl)) rfl rfl rfl ?_
  refine j_end ?_
  refine run_cond (ht rfl) (fun e2 => ?_) (fun e2 => ?_)
  · replace h := bt e2 h
    refine rs ?_
    refine rt ?_
    refine jp (pj_build (R := R_lms_signature) (zero_prod zero_i64 (zero_prod zero_sl zero_sl)) (by kernel_rfl) (by kernel_rfl) rfl .nil) rfl rfl rfl ?_
    obtain ⟨x1, e3, h⟩ := bind_some h
    refine j_store_boxx (r' := x1) (ht rfl) (ht rfl) .here (Path.all R_lms_signature) (by kernel_rfl) (oi e3) ?_
    refine jp (pa has_bl) rfl rfl rfl ?_
    refine j_end ?_
    obtain rfl := oi h
    exact run_ret fun a w hst => q_retN hst rfl (.cons (.cell rfl .here (by kernel_rfl)) <| .cons (.tmp rfl) <| .nil) rfl () (fun _ _ h => h) (.nil)
  · replace h := bf e2 h
    refine run_skip ?_
    refine rs ?_
    refine rt ?_
    refine jp (pm (ht rfl)) rfl rfl rfl ?_
    obtain ⟨r2, e4, h⟩ := bind_some h
    refine j_call (hc (ht rfl) <| hasL_nil) (by kernel_rfl) (c_wire_New e4) .nil rfl fun b2 => ?_
    refine jp (pa (ht rfl)) rfl rfl rfl ?_
    refine j_end ?_
    refine rs ?_
    refine rt ?_
    refine jp (pm (ht rfl)) rfl rfl rfl ?_
    obtain ⟨r3, e5, h⟩ := bind_some h
    refine j_call (hc (ht rfl) <| hasL_nil) (by kernel_rfl) (c_wire_Reader_U32 e5) (.cons .here <| .nil) rfl fun _ => ?_
    refine jp (pj_conv_ui (by decide) (by kernel_rfl) (ht rfl)) rfl rfl rfl ?_
    refine jp (pm (ht rfl)) rfl rfl rfl ?_
    refine jp (pm (ht rfl)) rfl rfl rfl ?_
    obtain ⟨r4, e6, h⟩ := bind_some h
    refine jp (pj_call (hc (ht rfl) <| hasL_nil) (by kernel_rfl) (c_lmots_Size hg0 e6)) rfl rfl rfl ?_
    obtain ⟨r5, e7, h⟩ := bind_some h
    refine j_call (hc (ht rfl) <| hc (ht rfl) <| hasL_nil) (by kernel_rfl) (c_wire_Reader_Plain e7) (.cons .here <| .nil) rfl fun _ => ?_
    refine j_own_nil 23 R_api_Hash none (jp (pj_buildX (R := (prod i64 (prod (sl u8) (exv (.slice none 0 0))))) (x := (0, ([] : List (BitVec 8)), ())) (zero_prod zero_i64 (zero_prod zero_sl zero_exv)) (by kernel_rfl) (by kernel_rfl) rfl (.cons (ht rfl) (sx_pathx (x1 := ((r3.2.toNat : Int), ([] : List (BitVec 8)), ())) (Path.fst i64 (prod (sl u8) (exv (.slice none 0 0)))) rfl) (by kernel_rfl) (.cons (ht rfl) (sx_pathx (x1 := ((r3.2.toNat : Int), r5.2, ())) (Path.then (Path.snd i64 (prod (sl u8) (exv (.slice none 0 0)))) (Path.fst (sl u8) (exv (.slice none 0 0)))) rfl) (by kernel_rfl) .nil))) rfl rfl rfl ?_)
    refine j_alloc (x := (0, ([] : List (BitVec 8)), ())) (R := (prod i64 (prod (sl u8) (exv (.slice none 0 0))))) (zero_prod zero_i64 (zero_prod zero_sl zero_exv)) (by kernel_rfl) rfl fun b3 => ?_
    refine j_store_all (ht rfl) (ht rfl) .here (by kernel_rfl) (by kernel_rfl) ?_
    refine j_end ?_
    refine rs ?_
    refine rt ?_
    refine jp (pm (ht rfl)) rfl rfl rfl ?_
    obtain ⟨r6, e8, h⟩ := bind_some h
    refine j_call (hc (ht rfl) <| hasL_nil) (by kernel_rfl) (c_wire_Reader_U32 e8) (.cons (.next (.next .here)) <| .nil) rfl fun _ => ?_
    refine jp (pj_conv_ui (by decide) (by kernel_rfl) (ht rfl)) rfl rfl rfl ?_
    refine jp (pa (ht rfl)) rfl rfl rfl ?_
    refine j_end ?_
    refine rs ?_
    refine rs ?_
    refine rt ?_
    refine jp (pm (ht rfl)) rfl rfl rfl ?_
    refine jp (pm has_i64) rfl rfl rfl ?_
    refine j_end ?_
    obtain ⟨⟨y5, y6, y7, y8⟩, e13, h⟩ := bind_some h
    refine run_loopS (Γi := fun (i : Value) (s : Int × (List (BitVec 8)) × Bool × (List T_api_Hash)) => [(1, i64.slot p_height), (2, i64.slot p_kind), (6, val (.pointer (some ⟨b1, 0, none⟩))), (8, val (.pointer (some ⟨b2, 0, none⟩))), (9, val (.pointer (some ⟨b3, 0, none⟩))), (10, i64.slot (r6.2.toNat : Int)), (31, i64.slot p_height), (32, i64.slot s.1)]) (Hi := fun (i : Value) (s : Int × (List (BitVec 8)) × Bool × (List T_api_Hash)) => [box b2 208 (prod (sl u8) bl) (s.2.1, s.2.2.1), box b3 211 (prod i64 (prod (sl u8) (exv i))) ((r3.2.toNat : Int), r5.2, ()), own 23 R_api_Hash i s.2.2.2, box b1 211 R_lms_signature (0, ([] : List (BitVec 8)), ([] : List T_api_Hash))]) e13 (.slice none 0 0) (fun a w hst => (hst.sub (.cons (.of_lk rfl) <| .cons (.of_lk rfl) <| .cons (.of_lk rfl) <| .cons (.of_lk rfl) <| .cons (.of_lk rfl) <| .cons (.of_lk rfl) <| .cons (.of_lk rfl) <| .cons (.of_lk rfl) <| .nil)).keep (.cons .here <| .cons .here <| .cons .here <| .cons .here <| .nil)) ?_ ?_
    · clear h e13
      rintro v1 ⟨y1, y2, y3, y4⟩ lr h
      change lms_parted_L1 p_height y1 y2 y3 y4 = some _ at h
      show Run _ _ _ [(1, i64.slot p_height), (2, i64.slot p_kind), (6, val (.pointer (some ⟨b1, 0, none⟩))), (8, val (.pointer (some ⟨b2, 0, none⟩))), (9, val (.pointer (some ⟨b3, 0, none⟩))), (10, i64.slot (r6.2.toNat : Int)), (31, i64.slot p_height), (32, i64.slot y1)] [box b2 208 (prod (sl u8) bl) (y2, y3), box b3 211 (prod i64 (prod (sl u8) (exv v1))) ((r3.2.toNat : Int), r5.2, ()), own 23 R_api_Hash v1 y4, box b1 211 R_lms_signature (0, ([] : List (BitVec 8)), ([] : List T_api_Hash))]
      unfold lms_parted_L1 at h
      refine rs ?_
      refine rt ?_
      refine jp (pj_ilss (ht rfl) (ht rfl)) rfl rfl rfl ?_
      refine j_end ?_
      refine rs ?_
      refine run_cond (ht rfl) (fun e9 => ?_) (fun e9 => ?_)
      · replace h := bt e9 h
        refine run_skip ?_
        refine rs ?_
        refine run_block ?_
        obtain ⟨r7, e10, h⟩ := bind_some h
        obtain ⟨x2, e11, h⟩ := bind_some h
        refine run_keep (H' := [box b2 208 (prod (sl u8) bl) (y2, y3), box b3 211 (prod i64 (prod (sl u8) (exv v1))) ((r3.2.toNat : Int), r5.2, ()), own 23 R_api_Hash v1 y4, box b1 211 R_lms_signature (0, ([] : List (BitVec 8)), ([] : List T_api_Hash))]) (.cons .here <| .cons .here <| .cons .here <| .cons .here <| .nil) ?_
        refine run_drawL (n := 7) (H := [box b3 211 (prod i64 (prod (sl u8) (exv v1))) ((r3.2.toNat : Int), r5.2, ()), own 23 R_api_Hash v1 y4, box b1 211 R_lms_signature (0, ([] : List (BitVec 8)), ([] : List T_api_Hash))]) (Ls := [⟨[box b2 208 (prod (sl u8) bl) (y2, y3)], [(3, ⟨Unit, fun (_ : Unit) => [box b2 208 (prod (sl u8) bl) (r7.1.1, r7.1.2)], fun (_ : Unit) => [(37, (sl u8).slot r7.2)]⟩)]⟩]) (by kernel_rfl) (by kernel_rfl) (by kernel_rfl) (by kernel_rfl) (by kernel_rfl) rfl (.read rfl (.plain rfl (pj_field_ptr (off := 2) (ht rfl) (by kernel_rfl))) <| .read rfl (.plain rfl (pj_load_box (ht rfl) .here (Path.then (Path.all (prod i64 (prod (sl u8) (exv v1)))) (Path.then (Path.snd i64 (prod (sl u8) (exv v1))) (Path.snd (sl u8) (exv v1)))) (by kernel_rfl))) <| .read rfl (.plain rfl (pm (ht rfl))) <| .step 0 rfl .here (.inl rfl) (fun i => ⟨_, _, fun _ => (), (w_call (hc (ht rfl) <| hc has_i64 <| hasL_nil) (by kernel_rfl) (c_wire_Reader_Plain e10) (.cons .here <| .nil) rfl), fun _ => rfl, slotIs, dst1⟩) <| .read rfl (.plain rfl (pj_s2apx (e := 5) (ht rfl) e11 rfl (by kernel_rfl))) <| .read rfl (.plain rfl (pl (ht rfl) (by kernel_rfl))) <| .read rfl (.plain rfl (pj_buildSlice (T := 23) (R := R_api_Hash) (.cons (ht rfl) .nil) rfl (by kernel_rfl) (by kernel_rfl))) <| .nil) ?_
        rintro _
        refine j_to (Γ' := [(1, i64.slot p_height), (2, i64.slot p_kind), (6, val (.pointer (some ⟨b1, 0, none⟩))), (8, val (.pointer (some ⟨b2, 0, none⟩))), (9, val (.pointer (some ⟨b3, 0, none⟩))), (10, i64.slot (r6.2.toNat : Int)), (31, i64.slot p_height), (32, i64.slot y1), (35, ov v1), (40, (sl R_api_Hash).slot ([x2]))]) (H' := [box b2 208 (prod (sl u8) bl) (r7.1.1, r7.1.2), box b3 211 (prod i64 (prod (sl u8) (exv v1))) ((r3.2.toNat : Int), r5.2, ()), own 23 R_api_Hash v1 y4, box b1 211 R_lms_signature (0, ([] : List (BitVec 8)), ([] : List T_api_Hash))]) (.cons (.of_lk rfl) <| .cons (.of_lk rfl) <| .cons (.of_lk rfl) <| .cons (.of_lk rfl) <| .cons (.of_lk rfl) <| .cons (.of_lk rfl) <| .cons (.of_lk rfl) <| .cons (.of_lk rfl) <| .cons (.of_lk rfl) <| .cons (.of_lk rfl) <| .nil) (.cons .here <| .cons .here <| .cons .here <| .cons .here <| .nil) ?_
        obtain ⟨e12, h⟩ := grd_some h
        refine j_append (T := 23) (E := 23) (ht rfl) (.next (.next .here)) (src_data (ht rfl)) (by kernel_rfl) (by kernel_rfl) e12 rfl fun v2 => ?_
        refine jp (pj_field_ptr (off := 2) (ht rfl) (by kernel_rfl)) rfl rfl rfl ?_
        refine j_store_se ((r3.2.toNat : Int), r5.2, ()) (ht rfl) (ht rfl) (.next (.next .here)) (se_snd i64 (r3.2.toNat : Int) (se_snd (sl u8) r5.2 se_here)) (by kernel_rfl) ?_
        refine j_end ?_
        refine run_endblock ?_
        refine rt ?_
        refine jp (pj_iadd (ht rfl) has_i64) rfl rfl rfl ?_
        refine jp (pm (ht rfl)) rfl rfl rfl ?_
        refine j_end ?_
        obtain rfl := oi h
        exact run_next v2 (.cons (.of_lk rfl) <| .cons (.of_lk rfl) <| .cons (.of_lk rfl) <| .cons (.of_lk rfl) <| .cons (.of_lk rfl) <| .cons (.of_lk rfl) <| .cons (.of_lk rfl) <| .cons (.of_lk rfl) <| .nil) (.cons (.next (.next .here)) <| .cons .here <| .cons .here <| .cons .here <| .nil)
      · replace h := bf e9 h
        obtain rfl := oi h
        exact run_brk v1 (.cons (.of_lk rfl) <| .cons (.of_lk rfl) <| .cons (.of_lk rfl) <| .cons (.of_lk rfl) <| .cons (.of_lk rfl) <| .cons (.of_lk rfl) <| .cons (.of_lk rfl) <| .cons (.of_lk rfl) <| .nil) (.cons .here <| .cons .here <| .cons .here <| .cons .here <| .nil)
    · rintro v3
      show Run _ _ _ [(1, i64.slot p_height), (2, i64.slot p_kind), (6, val (.pointer (some ⟨b1, 0, none⟩))), (8, val (.pointer (some ⟨b2, 0, none⟩))), (9, val (.pointer (some ⟨b3, 0, none⟩))), (10, i64.slot (r6.2.toNat : Int)), (31, i64.slot p_height), (32, i64.slot y5)] [box b2 208 (prod (sl u8) bl) (y6, y7), box b3 211 (prod i64 (prod (sl u8) (exv v3))) ((r3.2.toNat : Int), r5.2, ()), own 23 R_api_Hash v3 y8, box b1 211 R_lms_signature (0, ([] : List (BitVec 8)), ([] : List T_api_Hash))]
      refine run_to (Γ' := [(1, i64.slot p_height), (2, i64.slot p_kind), (6, val (.pointer (some ⟨b1, 0, none⟩))), (8, val (.pointer (some ⟨b2, 0, none⟩))), (9, val (.pointer (some ⟨b3, 0, none⟩))), (10, i64.slot (r6.2.toNat : Int))]) (H' := [box b2 208 (prod (sl u8) bl) (y6, y7), box b3 211 (prod i64 (prod (sl u8) (exv v3))) ((r3.2.toNat : Int), r5.2, ()), own 23 R_api_Hash v3 y8, box b1 211 R_lms_signature (0, ([] : List (BitVec 8)), ([] : List T_api_Hash))]) (.cons (.of_lk rfl) <| .cons (.of_lk rfl) <| .cons (.of_lk rfl) <| .cons (.of_lk rfl) <| .cons (.of_lk rfl) <| .cons (.of_lk rfl) <| .nil) (.cons .here <| .cons .here <| .cons .here <| .cons .here <| .nil) ?_
      refine rs ?_
      refine run_freezeIn ((r3.2.toNat : Int), r5.2, y8) (.next (.next .here)) (.next .here) (cv_snd i64 (r3.2.toNat : Int) (cv_snd (sl u8) r5.2 cv_at)) ?_
      obtain ⟨r8, e14, h⟩ := bind_some h
      obtain ⟨y9, e16, h⟩ := bind_some h
      obtain ⟨y10, e18, h⟩ := bind_some h
      obtain ⟨y11, e21, h⟩ := bind_some h
      refine run_keep (H' := [box b1 211 R_lms_signature (0, ([] : List (BitVec 8)), ([] : List T_api_Hash)), box b3 211 R_lms_signature ((r3.2.toNat : Int), r5.2, y8), box b2 208 (prod (sl u8) bl) (y6, y7)]) (.cons (.next (.next .here)) <| .cons .here <| .cons .here <| .nil) ?_
      refine (run_drawJ (n := 25) (Γ' := [(6, val (.pointer (some ⟨b1, 0, none⟩))), (67, bl.slot y11)]) (H' := [box b1 211 R_lms_signature ((r3.2.toNat : Int), r5.2, y8)]) ?_ fun J => ?_)
      · clear e16 e18 e21
        refine jp (pa (ht rfl)) rfl rfl rfl ?_
        refine j_end ?_
        obtain rfl := oi h
        exact run_ret fun a w hst => q_retN hst rfl (.cons (.cell rfl .here (by kernel_rfl)) <| .cons (.tmp rfl) <| .nil) rfl () (fun _ _ h => h) (.nil)
      · rcases bool_tf (r8) with e15 | e15
        · replace e16 := bt e15 e16
          rcases bool_tf (y9) with e17 | e17
          · replace e18 := bt e17 e18
            obtain ⟨e19, e18⟩ := grd_some e18
            rcases bool_tf (y10) with e20 | e20
            · replace e21 := bt e20 e21
              obtain ⟨r9, e22, e21⟩ := bind_some e21
              obtain ⟨r10, e23, e21⟩ := bind_some e21
              exact run_drawL (n := 25) (H := [box b3 211 R_lms_signature ((r3.2.toNat : Int), r5.2, y8), box b2 208 (prod (sl u8) bl) (y6, y7)]) (Ls := [⟨[box b1 211 R_lms_signature (0, ([] : List (BitVec 8)), ([] : List T_api_Hash))], [(24, ⟨Unit, fun (_ : Unit) => [box b1 211 R_lms_signature ((r3.2.toNat : Int), r5.2, y8)], fun (_ : Unit) => []⟩)]⟩, ⟨[], [(18, ⟨Nat, fun (b4 : Nat) => [box b4 208 (prod (sl u8) bl) (r9.1, r9.2)], fun (b4 : Nat) => [(62, val (.pointer (some ⟨b4, 0, none⟩)))]⟩), (19, ⟨Nat, fun (b4 : Nat) => [box b4 208 (prod (sl u8) bl) (r10.1.1, r10.1.2)], fun (b4 : Nat) => [(63, u32.slot r10.2), (62, val (.pointer (some ⟨b4, 0, none⟩)))]⟩)]⟩]) (by kernel_rfl) (by kernel_rfl) (by kernel_rfl) (by kernel_rfl) (by kernel_rfl) rfl (.read rfl (.plain rfl (pj_load_box (ht rfl) .here (Path.all R_lms_signature) (by kernel_rfl))) <| .read rfl (.plain rfl (pm (ht rfl))) <| .read rfl (.plain rfl (pj_callR (hc (ht rfl) <| hasL_nil) (.next .here) (by kernel_rfl) (fun _ => (c_wire_Reader_Done e14)))) <| .read rfl (.plain rfl (pm (ht rfl))) <| .read rfl (.yes ⟨3, true, _, 47, _, rfl, rfl, rfl, fun _ _ => bl_p.1, gd_yes e15⟩ (pm (ht rfl))) <| .read rfl (.yes ⟨3, true, _, 47, _, rfl, rfl, rfl, fun _ _ => bl_p.1, gd_yes e15⟩ (pm (ht rfl))) <| .read rfl (.yes ⟨3, true, _, 47, _, rfl, rfl, rfl, fun _ _ => bl_p.1, gd_yes e15⟩ (pj_ieql (ht rfl) (ht rfl))) <| .read rfl (.plain rfl (PJ.eqv (R := bl) (pj_pick (t := any) (ht rfl) (fun _ => (ht rfl)) (fun he => absurd (e15.symm.trans he) (by decide))) (oi e16))) <| .read rfl (.plain rfl (pm (ht rfl))) <| .read rfl (.yes ⟨8, true, _, 52, _, rfl, rfl, rfl, fun _ _ => bl_p.1, gd_yes e17⟩ (pj_field_ptr (off := 0) (ht rfl) (by kernel_rfl))) <| .read rfl (.yes ⟨8, true, _, 52, _, rfl, rfl, rfl, fun _ _ => bl_p.1, gd_yes e17⟩ (pj_load_box (ht rfl) .here (Path.then (Path.all R_lms_signature) (Path.fst i64 (prod (sl u8) (sl R_api_Hash)))) (by kernel_rfl))) <| .read rfl (.yes ⟨8, true, _, 52, _, rfl, rfl, rfl, fun _ _ => bl_p.1, gd_yes e17⟩ (pm (ht rfl))) <| .read rfl (.yes ⟨8, true, _, 52, _, rfl, rfl, rfl, fun _ _ => bl_p.1, gd_yes e17⟩ (pj_ishl has_i64 (ht rfl) isInt_i64 e19)) <| .read rfl (.yes ⟨8, true, _, 52, _, rfl, rfl, rfl, fun _ _ => bl_p.1, gd_yes e17⟩ (pj_ilss (ht rfl) (ht rfl))) <| .read rfl (.plain rfl (PJ.eqv (R := bl) (pj_pick (t := any) (ht rfl) (fun _ => (ht rfl)) (fun he => absurd (e17.symm.trans he) (by decide))) (oi e18))) <| .read rfl (.plain rfl (pm (ht rfl))) <| .read rfl (.yes ⟨15, true, _, 59, _, rfl, rfl, rfl, fun _ _ => bl_p.1, gd_yes e20⟩ (pj_field_ptr (off := 1) (ht rfl) (by kernel_rfl))) <| .read rfl (.yes ⟨15, true, _, 59, _, rfl, rfl, rfl, fun _ _ => bl_p.1, gd_yes e20⟩ (pj_load_box (ht rfl) .here (Path.then (Path.all R_lms_signature) (Path.then (Path.snd i64 (prod (sl u8) (sl R_api_Hash))) (Path.fst (sl u8) (sl R_api_Hash)))) (by kernel_rfl))) <| .step 1 rfl .here (.inr ⟨15, true, _, 59, _, rfl, rfl, rfl, fun _ _ => bl_p.1, gd_yes e20⟩) (fun i => ⟨_, _, fun j => j, (w_call (hc (ht rfl) <| hasL_nil) (by kernel_rfl) (c_wire_New e22) .nil rfl), fun _ => rfl, slotAny, dst1⟩) <| .step 1 rfl (.next .here) (.inr ⟨15, true, _, 59, _, rfl, rfl, rfl, fun _ _ => bl_p.1, gd_yes e20⟩) (fun i => ⟨_, _, fun _ => i, (w_call (hc (ht rfl) <| hasL_nil) (by kernel_rfl) (c_wire_Reader_U32 e23) (.cons .here <| .nil) rfl), fun _ => rfl, slotIs, dst1⟩) <| .read rfl (.yes ⟨15, true, _, 59, _, rfl, rfl, rfl, fun _ _ => bl_p.1, gd_yes e20⟩ (pj_conv_ui (by decide) (by kernel_rfl) (ht rfl))) <| .read rfl (.yes ⟨15, true, _, 59, _, rfl, rfl, rfl, fun _ _ => bl_p.1, gd_yes e20⟩ (pm (ht rfl))) <| .read rfl (.yes ⟨15, true, _, 59, _, rfl, rfl, rfl, fun _ _ => bl_p.1, gd_yes e20⟩ (pj_ieql (ht rfl) (ht rfl))) <| .read rfl (.plain rfl (PJ.eqv (R := bl) (pj_pick (t := any) (ht rfl) (fun _ => (ht rfl)) (fun he => absurd (e20.symm.trans he) (by decide))) (oi e21))) <| .step 0 rfl .here (.inl rfl) (fun i => ⟨_, _, fun _ => (), (w_store (r' := ((r3.2.toNat : Int), r5.2, y8)) (ht rfl) (ht rfl) .here (Path.all R_lms_signature) (by kernel_rfl) rfl), fun _ => rfl, (slotNo (s := any)), dst0⟩) <| .nil) (fun _ b4 => j_to (Γ' := [(6, val (.pointer (some ⟨b1, 0, none⟩))), (67, bl.slot y11)]) (H' := [box b1 211 R_lms_signature ((r3.2.toNat : Int), r5.2, y8)]) (.cons (.of_lk rfl) <| .cons (.of_lk rfl) <| .nil) (.cons .here <| .nil) J)
            · replace e21 := bf e20 e21
              exact run_drawL (n := 25) (H := [box b3 211 R_lms_signature ((r3.2.toNat : Int), r5.2, y8), box b2 208 (prod (sl u8) bl) (y6, y7)]) (Ls := [⟨[box b1 211 R_lms_signature (0, ([] : List (BitVec 8)), ([] : List T_api_Hash))], [(24, ⟨Unit, fun (_ : Unit) => [box b1 211 R_lms_signature ((r3.2.toNat : Int), r5.2, y8)], fun (_ : Unit) => []⟩)]⟩]) (by kernel_rfl) (by kernel_rfl) (by kernel_rfl) (by kernel_rfl) (by kernel_rfl) rfl (.read rfl (.plain rfl (pj_load_box (ht rfl) .here (Path.all R_lms_signature) (by kernel_rfl))) <| .read rfl (.plain rfl (pm (ht rfl))) <| .read rfl (.plain rfl (pj_callR (hc (ht rfl) <| hasL_nil) (.next .here) (by kernel_rfl) (fun _ => (c_wire_Reader_Done e14)))) <| .read rfl (.plain rfl (pm (ht rfl))) <| .read rfl (.yes ⟨3, true, _, 47, _, rfl, rfl, rfl, fun _ _ => bl_p.1, gd_yes e15⟩ (pm (ht rfl))) <| .read rfl (.yes ⟨3, true, _, 47, _, rfl, rfl, rfl, fun _ _ => bl_p.1, gd_yes e15⟩ (pm (ht rfl))) <| .read rfl (.yes ⟨3, true, _, 47, _, rfl, rfl, rfl, fun _ _ => bl_p.1, gd_yes e15⟩ (pj_ieql (ht rfl) (ht rfl))) <| .read rfl (.plain rfl (PJ.eqv (R := bl) (pj_pick (t := any) (ht rfl) (fun _ => (ht rfl)) (fun he => absurd (e15.symm.trans he) (by decide))) (oi e16))) <| .read rfl (.plain rfl (pm (ht rfl))) <| .read rfl (.yes ⟨8, true, _, 52, _, rfl, rfl, rfl, fun _ _ => bl_p.1, gd_yes e17⟩ (pj_field_ptr (off := 0) (ht rfl) (by kernel_rfl))) <| .read rfl (.yes ⟨8, true, _, 52, _, rfl, rfl, rfl, fun _ _ => bl_p.1, gd_yes e17⟩ (pj_load_box (ht rfl) .here (Path.then (Path.all R_lms_signature) (Path.fst i64 (prod (sl u8) (sl R_api_Hash)))) (by kernel_rfl))) <| .read rfl (.yes ⟨8, true, _, 52, _, rfl, rfl, rfl, fun _ _ => bl_p.1, gd_yes e17⟩ (pm (ht rfl))) <| .read rfl (.yes ⟨8, true, _, 52, _, rfl, rfl, rfl, fun _ _ => bl_p.1, gd_yes e17⟩ (pj_ishl has_i64 (ht rfl) isInt_i64 e19)) <| .read rfl (.yes ⟨8, true, _, 52, _, rfl, rfl, rfl, fun _ _ => bl_p.1, gd_yes e17⟩ (pj_ilss (ht rfl) (ht rfl))) <| .read rfl (.plain rfl (PJ.eqv (R := bl) (pj_pick (t := any) (ht rfl) (fun _ => (ht rfl)) (fun he => absurd (e17.symm.trans he) (by decide))) (oi e18))) <| .read rfl (.plain rfl (pm (ht rfl))) <| .read rfl (.no ⟨15, true, _, 59, _, rfl, rfl, rfl, fun _ _ => bl_p.1, gd_no e20⟩) <| .read rfl (.no ⟨15, true, _, 59, _, rfl, rfl, rfl, fun _ _ => bl_p.1, gd_no e20⟩) <| .read rfl (.no ⟨15, true, _, 59, _, rfl, rfl, rfl, fun _ _ => bl_p.1, gd_no e20⟩) <| .read rfl (.no ⟨15, true, _, 59, _, rfl, rfl, rfl, fun _ _ => bl_p.1, gd_no e20⟩) <| .read rfl (.no ⟨15, true, _, 59, _, rfl, rfl, rfl, fun _ _ => bl_p.1, gd_no e20⟩) <| .read rfl (.no ⟨15, true, _, 59, _, rfl, rfl, rfl, fun _ _ => bl_p.1, gd_no e20⟩) <| .read rfl (.no ⟨15, true, _, 59, _, rfl, rfl, rfl, fun _ _ => bl_p.1, gd_no e20⟩) <| .read rfl (.plain rfl (PJ.eqv (R := bl) (pj_pick (t := any) (ht rfl) (fun he => absurd (e20.symm.trans he) (by decide)) (fun _ => has_bl)) (oi e21))) <| .step 0 rfl .here (.inl rfl) (fun i => ⟨_, _, fun _ => (), (w_store (r' := ((r3.2.toNat : Int), r5.2, y8)) (ht rfl) (ht rfl) .here (Path.all R_lms_signature) (by kernel_rfl) rfl), fun _ => rfl, (slotNo (s := any)), dst0⟩) <| .nil) (fun _ => j_to (Γ' := [(6, val (.pointer (some ⟨b1, 0, none⟩))), (67, bl.slot y11)]) (H' := [box b1 211 R_lms_signature ((r3.2.toNat : Int), r5.2, y8)]) (.cons (.of_lk rfl) <| .cons (.of_lk rfl) <| .nil) (.cons .here <| .nil) J)
          · replace e18 := bf e17 e18
            rcases bool_tf (y10) with e20 | e20
            · exact absurd ((oi e18).trans e20) (by decide)
            · replace e21 := bf e20 e21
              exact run_drawL (n := 25) (H := [box b3 211 R_lms_signature ((r3.2.toNat : Int), r5.2, y8), box b2 208 (prod (sl u8) bl) (y6, y7)]) (Ls := [⟨[box b1 211 R_lms_signature (0, ([] : List (BitVec 8)), ([] : List T_api_Hash))], [(24, ⟨Unit, fun (_ : Unit) => [box b1 211 R_lms_signature ((r3.2.toNat : Int), r5.2, y8)], fun (_ : Unit) => []⟩)]⟩]) (by kernel_rfl) (by kernel_rfl) (by kernel_rfl) (by kernel_rfl) (by kernel_rfl) rfl (.read rfl (.plain rfl (pj_load_box (ht rfl) .here (Path.all R_lms_signature) (by kernel_rfl))) <| .read rfl (.plain rfl (pm (ht rfl))) <| .read rfl (.plain rfl (pj_callR (hc (ht rfl) <| hasL_nil) (.next .here) (by kernel_rfl) (fun _ => (c_wire_Reader_Done e14)))) <| .read rfl (.plain rfl (pm (ht rfl))) <| .read rfl (.yes ⟨3, true, _, 47, _, rfl, rfl, rfl, fun _ _ => bl_p.1, gd_yes e15⟩ (pm (ht rfl))) <| .read rfl (.yes ⟨3, true, _, 47, _, rfl, rfl, rfl, fun _ _ => bl_p.1, gd_yes e15⟩ (pm (ht rfl))) <| .read rfl (.yes ⟨3, true, _, 47, _, rfl, rfl, rfl, fun _ _ => bl_p.1, gd_yes e15⟩ (pj_ieql (ht rfl) (ht rfl))) <| .read rfl (.plain rfl (PJ.eqv (R := bl) (pj_pick (t := any) (ht rfl) (fun _ => (ht rfl)) (fun he => absurd (e15.symm.trans he) (by decide))) (oi e16))) <| .read rfl (.plain rfl (pm (ht rfl))) <| .read rfl (.no ⟨8, true, _, 52, _, rfl, rfl, rfl, fun _ _ => bl_p.1, gd_no e17⟩) <| .read rfl (.no ⟨8, true, _, 52, _, rfl, rfl, rfl, fun _ _ => bl_p.1, gd_no e17⟩) <| .read rfl (.no ⟨8, true, _, 52, _, rfl, rfl, rfl, fun _ _ => bl_p.1, gd_no e17⟩) <| .read rfl (.no ⟨8, true, _, 52, _, rfl, rfl, rfl, fun _ _ => bl_p.1, gd_no e17⟩) <| .read rfl (.no ⟨8, true, _, 52, _, rfl, rfl, rfl, fun _ _ => bl_p.1, gd_no e17⟩) <| .read rfl (.plain rfl (PJ.eqv (R := bl) (pj_pick (t := any) (ht rfl) (fun he => absurd (e17.symm.trans he) (by decide)) (fun _ => has_bl)) (oi e18))) <| .read rfl (.plain rfl (pm (ht rfl))) <| .read rfl (.no ⟨15, true, _, 59, _, rfl, rfl, rfl, fun _ _ => bl_p.1, gd_no e20⟩) <| .read rfl (.no ⟨15, true, _, 59, _, rfl, rfl, rfl, fun _ _ => bl_p.1, gd_no e20⟩) <| .read rfl (.no ⟨15, true, _, 59, _, rfl, rfl, rfl, fun _ _ => bl_p.1, gd_no e20⟩) <| .read rfl (.no ⟨15, true, _, 59, _, rfl, rfl, rfl, fun _ _ => bl_p.1, gd_no e20⟩) <| .read rfl (.no ⟨15, true, _, 59, _, rfl, rfl, rfl, fun _ _ => bl_p.1, gd_no e20⟩) <| .read rfl (.no ⟨15, true, _, 59, _, rfl, rfl, rfl, fun _ _ => bl_p.1, gd_no e20⟩) <| .read rfl (.no ⟨15, true, _, 59, _, rfl, rfl, rfl, fun _ _ => bl_p.1, gd_no e20⟩) <| .read rfl (.plain rfl (PJ.eqv (R := bl) (pj_pick (t := any) (ht rfl) (fun he => absurd (e20.symm.trans he) (by decide)) (fun _ => has_bl)) (oi e21))) <| .step 0 rfl .here (.inl rfl) (fun i => ⟨_, _, fun _ => (), (w_store (r' := ((r3.2.toNat : Int), r5.2, y8)) (ht rfl) (ht rfl) .here (Path.all R_lms_signature) (by kernel_rfl) rfl), fun _ => rfl, (slotNo (s := any)), dst0⟩) <| .nil) (fun _ => j_to (Γ' := [(6, val (.pointer (some ⟨b1, 0, none⟩))), (67, bl.slot y11)]) (H' := [box b1 211 R_lms_signature ((r3.2.toNat : Int), r5.2, y8)]) (.cons (.of_lk rfl) <| .cons (.of_lk rfl) <| .nil) (.cons .here <| .nil) J)
        · replace e16 := bf e15 e16
          rcases bool_tf (y9) with e17 | e17
          · exact absurd ((oi e16).trans e17) (by decide)
          · replace e18 := bf e17 e18
            rcases bool_tf (y10) with e20 | e20
            · exact absurd ((oi e18).trans e20) (by decide)
            · replace e21 := bf e20 e21
              exact run_drawL (n := 25) (H := [box b3 211 R_lms_signature ((r3.2.toNat : Int), r5.2, y8), box b2 208 (prod (sl u8) bl) (y6, y7)]) (Ls := [⟨[box b1 211 R_lms_signature (0, ([] : List (BitVec 8)), ([] : List T_api_Hash))], [(24, ⟨Unit, fun (_ : Unit) => [box b1 211 R_lms_signature ((r3.2.toNat : Int), r5.2, y8)], fun (_ : Unit) => []⟩)]⟩]) (by kernel_rfl) (by kernel_rfl) (by kernel_rfl) (by kernel_rfl) (by kernel_rfl) rfl (.read rfl (.plain rfl (pj_load_box (ht rfl) .here (Path.all R_lms_signature) (by kernel_rfl))) <| .read rfl (.plain rfl (pm (ht rfl))) <| .read rfl (.plain rfl (pj_callR (hc (ht rfl) <| hasL_nil) (.next .here) (by kernel_rfl) (fun _ => (c_wire_Reader_Done e14)))) <| .read rfl (.plain rfl (pm (ht rfl))) <| .read rfl (.no ⟨3, true, _, 47, _, rfl, rfl, rfl, fun _ _ => bl_p.1, gd_no e15⟩) <| .read rfl (.no ⟨3, true, _, 47, _, rfl, rfl, rfl, fun _ _ => bl_p.1, gd_no e15⟩) <| .read rfl (.no ⟨3, true, _, 47, _, rfl, rfl, rfl, fun _ _ => bl_p.1, gd_no e15⟩) <| .read rfl (.plain rfl (PJ.eqv (R := bl) (pj_pick (t := any) (ht rfl) (fun he => absurd (e15.symm.trans he) (by decide)) (fun _ => has_bl)) (oi e16))) <| .read rfl (.plain rfl (pm (ht rfl))) <| .read rfl (.no ⟨8, true, _, 52, _, rfl, rfl, rfl, fun _ _ => bl_p.1, gd_no e17⟩) <| .read rfl (.no ⟨8, true, _, 52, _, rfl, rfl, rfl, fun _ _ => bl_p.1, gd_no e17⟩) <| .read rfl (.no ⟨8, true, _, 52, _, rfl, rfl, rfl, fun _ _ => bl_p.1, gd_no e17⟩) <| .read rfl (.no ⟨8, true, _, 52, _, rfl, rfl, rfl, fun _ _ => bl_p.1, gd_no e17⟩) <| .read rfl (.no ⟨8, true, _, 52, _, rfl, rfl, rfl, fun _ _ => bl_p.1, gd_no e17⟩) <| .read rfl (.plain rfl (PJ.eqv (R := bl) (pj_pick (t := any) (ht rfl) (fun he => absurd (e17.symm.trans he) (by decide)) (fun _ => has_bl)) (oi e18))) <| .read rfl (.plain rfl (pm (ht rfl))) <| .read rfl (.no ⟨15, true, _, 59, _, rfl, rfl, rfl, fun _ _ => bl_p.1, gd_no e20⟩) <| .read rfl (.no ⟨15, true, _, 59, _, rfl, rfl, rfl, fun _ _ => bl_p.1, gd_no e20⟩) <| .read rfl (.no ⟨15, true, _, 59, _, rfl, rfl, rfl, fun _ _ => bl_p.1, gd_no e20⟩) <| .read rfl (.no ⟨15, true, _, 59, _, rfl, rfl, rfl, fun _ _ => bl_p.1, gd_no e20⟩) <| .read rfl (.no ⟨15, true, _, 59, _, rfl, rfl, rfl, fun _ _ => bl_p.1, gd_no e20⟩) <| .read rfl (.no ⟨15, true, _, 59, _, rfl, rfl, rfl, fun _ _ => bl_p.1, gd_no e20⟩) <| .read rfl (.no ⟨15, true, _, 59, _, rfl, rfl, rfl, fun _ _ => bl_p.1, gd_no e20⟩) <| .read rfl (.plain rfl (PJ.eqv (R := bl) (pj_pick (t := any) (ht rfl) (fun he => absurd (e20.symm.trans he) (by decide)) (fun _ => has_bl)) (oi e21))) <| .step 0 rfl .here (.inl rfl) (fun i => ⟨_, _, fun _ => (), (w_store (r' := ((r3.2.toNat : Int), r5.2, y8)) (ht rfl) (ht rfl) .here (Path.all R_lms_signature) (by kernel_rfl) rfl), fun _ => rfl, (slotNo (s := any)), dst0⟩) <| .nil) (fun _ => j_to (Γ' := [(6, val (.pointer (some ⟨b1, 0, none⟩))), (67, bl.slot y11)]) (H' := [box b1 211 R_lms_signature ((r3.2.toNat : Int), r5.2, y8)]) (.cons (.of_lk rfl) <| .cons (.of_lk rfl) <| .nil) (.cons .here <| .nil) J)
set_option maxRecDepth 100000 in
set_option maxHeartbeats 4000000 in
theorem c_lmots_form_cut {G : GP} {Sy : Type} {p_f : T_lmots_form} {p_b : List (BitVec 8)} {yl : Sy → Int → Option Sy} {s0 : Sy} {L : Nat} {rc : Loop} {E : Sy → Ent} {r : Sy} (hY : ∀ s d s', yl s d = some s' → YieldC Tryz.prog G L rc (i64.slot d) (E s) (E s')) (h : lmots_form_cut p_f p_b yl s0 = some r) : CtrY Tryz.prog G L rc 184 [R_lmots_form.slot p_f, (sl u8).slot p_b, val (yv L)] [E s0] (fun (_ : Unit) => tup []) (fun (_ : Unit) => [E r]) := by
  unfold lmots_form_cut at h
  refine ctrY_of_run Tryz.func184 rfl 35 rfl rfl fun m0 w0 b0 hl hb => ?_
  show Run _ _ _ [(0, R_lmots_form.slot p_f), (1, (sl u8).slot p_b), (2, val (yv L))] _
  refine rs ?_
  refine rt ?_
  refine jp (pj_box_to (ht rfl)) rfl rfl rfl ?_
  refine j_end ?_
  refine rs ?_
  refine rt ?_
  refine jp (pm (ht rfl)) rfl rfl rfl ?_
  refine jp (pj_len_sl (sz := 1) (ht rfl) (by kernel_rfl)) rfl rfl rfl ?_
  refine jp (pm has_i64) rfl rfl rfl ?_
  refine j_end ?_
  obtain ⟨⟨y8, y9⟩, e9, h⟩ := bind_some h
  refine run_loopS (Γi := fun (i : Unit) (s : Int × Sy) => [(2, val (yv L)), (3, ptrTo R_lmots_form p_f), (9, (sl u8).slot p_b), (10, i64.slot (p_b.length : Int)), (11, i64.slot s.1)]) (Hi := fun (i : Unit) (s : Int × Sy) => [E s.2]) e9 () (fun a w hst => (hst.sub (.cons (.of_lk rfl) <| .cons (.of_lk rfl) <| .cons (.of_lk rfl) <| .cons (.of_lk rfl) <| .cons (.of_lk rfl) <| .nil)).keep (.cons .here <| .nil)) ?_ ?_
  · clear h e9
    rintro _ ⟨y1, y2⟩ lr h
    change lmots_form_cut_L1 p_b p_f yl y1 y2 = some _ at h
    show Run _ _ _ [(2, val (yv L)), (3, ptrTo R_lmots_form p_f), (9, (sl u8).slot p_b), (10, i64.slot (p_b.length : Int)), (11, i64.slot y1)] [E y2]
    unfold lmots_form_cut_L1 at h
    refine rs ?_
    refine rt ?_
    refine jp (pj_ilss (ht rfl) (ht rfl)) rfl rfl rfl ?_
    refine j_end ?_
    refine rs ?_
    refine run_cond (ht rfl) (fun e1 => ?_) (fun e1 => ?_)
    · replace h := bt e1 h
      refine run_skip ?_
      refine rs ?_
      refine run_block ?_
      refine rs ?_
      refine rt ?_
      obtain ⟨x1, e2, h⟩ := bind_some h
      refine jp (pj_index_slx (ht rfl) (ht rfl) isInt_i64 e2 (by kernel_rfl)) rfl rfl rfl ?_
      refine jp (pl (ht rfl) (by kernel_rfl)) rfl rfl rfl ?_
      refine jp (pa (ht rfl)) rfl rfl rfl ?_
      refine j_end ?_
      refine rs ?_
      refine rt ?_
      refine jp (pj_field_to (ht rfl) (Path.fst i64 (prod i64 i64)) (by kernel_rfl)) rfl rfl rfl ?_
      refine jp (pl (ht rfl) (by kernel_rfl)) rfl rfl rfl ?_
      refine jp (pj_isub has_i64 (ht rfl)) rfl rfl rfl ?_
      refine jp (pa (ht rfl)) rfl rfl rfl ?_
      refine j_end ?_
      obtain ⟨⟨y6, y7⟩, e8, h⟩ := bind_some h
      refine run_loopS (Γi := fun (i : Unit) (s : Int × Sy) => [(2, val (yv L)), (3, ptrTo R_lmots_form p_f), (7, u8.slot x1), (8, i64.slot s.1), (9, (sl u8).slot p_b), (10, i64.slot (p_b.length : Int)), (11, i64.slot y1)]) (Hi := fun (i : Unit) (s : Int × Sy) => [E s.2]) e8 () (fun a w hst => (hst.sub (.cons (.of_lk rfl) <| .cons (.of_lk rfl) <| .cons (.of_lk rfl) <| .cons (.of_lk rfl) <| .cons (.of_lk rfl) <| .cons (.of_lk rfl) <| .cons (.of_lk rfl) <| .nil)).keep (.cons .here <| .nil)) ?_ ?_
      · clear h e8
        rintro _ ⟨y3, y4⟩ lr h
        change lmots_form_cut_L2 p_f yl x1 y3 y4 = some _ at h
        show Run _ _ _ [(2, val (yv L)), (3, ptrTo R_lmots_form p_f), (7, u8.slot x1), (8, i64.slot y3), (9, (sl u8).slot p_b), (10, i64.slot (p_b.length : Int)), (11, i64.slot y1)] [E y4]
        unfold lmots_form_cut_L2 at h
        refine rs ?_
        refine rs ?_
        refine rt ?_
        refine jp (pm (ht rfl)) rfl rfl rfl ?_
        refine jp (pj_igeq (ht rfl) has_i64) rfl rfl rfl ?_
        refine j_end ?_
        refine run_cond (ht rfl) (fun e3 => ?_) (fun e3 => ?_)
        · replace h := bt e3 h
          refine run_skip ?_
          refine rs ?_
          refine run_block ?_
          refine rs ?_
          obtain ⟨e4, h⟩ := grd_some h
          obtain ⟨r1, e5, h⟩ := bind_some h
          refine run_draw (n := 8) (by kernel_rfl) (by kernel_rfl) (by kernel_rfl) (by kernel_rfl) (.read (.plain rfl (pm (ht rfl))) <| .read (.plain rfl (pm (ht rfl))) <| .read (.plain rfl (pj_conv_ui (by decide) (by kernel_rfl) (ht rfl))) <| .read (.plain rfl (pm (ht rfl))) <| .read (.plain rfl (pj_ishr (ht rfl) (ht rfl) isInt_i64 e4)) <| .read (.plain rfl (pl (ht rfl) (by kernel_rfl))) <| .read (.plain rfl (pj_call (hc (ht rfl) <| hasL_nil) (by kernel_rfl) (c_lmots_form_most e5))) <| .read (.plain rfl (pj_iand (ht rfl) (ht rfl))) <| .nil) (j_to (Γ' := [(2, val (yv L)), (3, ptrTo R_lmots_form p_f), (7, u8.slot x1), (8, i64.slot y3), (9, (sl u8).slot p_b), (10, i64.slot (p_b.length : Int)), (11, i64.slot y1), (24, val (yv L)), (31, i64.slot (iand (ishr (x1.toNat : Int) y3) r1))]) (H' := [E y4]) (.cons (.of_lk rfl) <| .cons (.of_lk rfl) <| .cons (.of_lk rfl) <| .cons (.of_lk rfl) <| .cons (.of_lk rfl) <| .cons (.of_lk rfl) <| .cons (.of_lk rfl) <| .cons (.of_lk rfl) <| .cons (.of_lk rfl) <| .nil) (.cons .here <| .nil) ?_)
          obtain ⟨y5, e6, h⟩ := bind_some h
          refine j_yield (ht rfl) (ht rfl) hl hb (hY _ _ _ e6) rfl ?_
          refine jp (pj_not (ht rfl)) rfl rfl rfl ?_
          refine j_end ?_
          refine run_cond_f (ht rfl) rfl ?_
          refine run_skip ?_
          refine run_endblock ?_
          refine rt ?_
          refine jp (pm (ht rfl)) rfl rfl rfl ?_
          refine jp (pj_field_to (ht rfl) (Path.fst i64 (prod i64 i64)) (by kernel_rfl)) rfl rfl rfl ?_
          refine jp (pl (ht rfl) (by kernel_rfl)) rfl rfl rfl ?_
          refine jp (pj_isub (ht rfl) (ht rfl)) rfl rfl rfl ?_
          refine jp (pa (ht rfl)) rfl rfl rfl ?_
          refine j_end ?_
          obtain rfl := oi h
          exact run_next () (.cons (.of_lk rfl) <| .cons (.of_lk rfl) <| .cons (.of_lk rfl) <| .cons (.of_lk rfl) <| .cons (.of_lk rfl) <| .cons (.of_lk rfl) <| .cons (.of_lk rfl) <| .nil) (.cons .here <| .nil)
        · replace h := bf e3 h
          obtain rfl := oi h
          exact run_brk () (.cons (.of_lk rfl) <| .cons (.of_lk rfl) <| .cons (.of_lk rfl) <| .cons (.of_lk rfl) <| .cons (.of_lk rfl) <| .cons (.of_lk rfl) <| .cons (.of_lk rfl) <| .nil) (.cons .here <| .nil)
      · rintro _
        show Run _ _ _ [(2, val (yv L)), (3, ptrTo R_lmots_form p_f), (7, u8.slot x1), (8, i64.slot y6), (9, (sl u8).slot p_b), (10, i64.slot (p_b.length : Int)), (11, i64.slot y1)] [E y7]
        refine run_to (Γ' := [(2, val (yv L)), (3, ptrTo R_lmots_form p_f), (9, (sl u8).slot p_b), (10, i64.slot (p_b.length : Int)), (11, i64.slot y1)]) (H' := [E y7]) (.cons (.of_lk rfl) <| .cons (.of_lk rfl) <| .cons (.of_lk rfl) <| .cons (.of_lk rfl) <| .cons (.of_lk rfl) <| .nil) (.cons .here <| .nil) ?_
        refine run_endblock ?_
        refine rt ?_
        refine jp (pj_iadd (ht rfl) has_i64) rfl rfl rfl ?_
        refine jp (pm (ht rfl)) rfl rfl rfl ?_
        refine j_end ?_
        obtain rfl := oi h
        exact run_next () (.cons (.of_lk rfl) <| .cons (.of_lk rfl) <| .cons (.of_lk rfl) <| .cons (.of_lk rfl) <| .cons (.of_lk rfl) <| .nil) (.cons .here <| .nil)
    · replace h := bf e1 h
      obtain rfl := oi h
      exact run_brk () (.cons (.of_lk rfl) <| .cons (.of_lk rfl) <| .cons (.of_lk rfl) <| .cons (.of_lk rfl) <| .cons (.of_lk rfl) <| .nil) (.cons .here <| .nil)
  · rintro _
    show Run _ _ _ [(2, val (yv L)), (3, ptrTo R_lmots_form p_f), (9, (sl u8).slot p_b), (10, i64.slot (p_b.length : Int)), (11, i64.slot y8)] [E y9]
    refine run_to (Γ' := []) (H' := [E y9]) (.nil) (.cons .here <| .nil) ?_
    obtain rfl := oi h
    exact run_nil fun a w hst => q_retN_n hst rfl (.nil) rfl () (fun _ _ h => h) (.cons .here <| .nil)
set_option maxRecDepth 100000 in
set_option maxHeartbeats 4000000 in
theorem c_lmots_form_sum_1 {G : GP} {Sy : Type} {yl : Sy → Int → Option Sy} {q_0 : T_lmots_form} {q_1 : T_api_Hash} {s0 : Sy} {L : Nat} {rc : Loop} {E : Sy → Ent} {r : Sy} (hY : ∀ s d s', yl s d = some s' → YieldC Tryz.prog G L rc (i64.slot d) (E s) (E s')) (h : lmots_form_sum_1 yl q_0 q_1 s0 = some r) : CtrY Tryz.prog G L rc 187 [val (yv L), ptrTo R_lmots_form q_0, ptrTo R_api_Hash q_1] [E s0] (fun (_ : Unit) => tup []) (fun (_ : Unit) => [E r]) := by
  unfold lmots_form_sum_1 at h
  refine ctrY_of_run Tryz.func187 rfl 8 rfl rfl fun m0 w0 b0 hl hb => ?_
  show Run _ _ _ [(0, val (yv L)), (1, ptrTo R_lmots_form q_0), (2, ptrTo R_api_Hash q_1)] _
  refine run_draw (n := 3) (by kernel_rfl) (by kernel_rfl) (by kernel_rfl) (by kernel_rfl) (.read (.plain rfl (pl (ht rfl) (by kernel_rfl))) <| .read (.plain rfl (pj_slice_toF (ht rfl) (by decide) (by kernel_rfl))) <| .read (.plain rfl (pm (ht rfl))) <| .nil) (j_to (Γ' := [(4, R_lmots_form.slot q_0), (5, (sl u8).slot q_1.toList), (6, val (yv L))]) (H' := [E s0]) (.cons (.of_lk rfl) <| .cons (.of_lk rfl) <| .cons (.of_lk rfl) <| .nil) (.cons .here <| .nil) ?_)
  obtain ⟨y1, e2, h⟩ := bind_some h
  refine j_callY (hc (ht rfl) <| hc (ht rfl) <| hc (ht rfl) <| hasL_nil) (by kernel_rfl) hl hb (c_lmots_form_cut hY e2) rfl ?_
  refine j_end ?_
  obtain rfl := oi h
  exact run_nil fun a w hst => q_retN_n hst rfl (.nil) rfl () (fun _ _ h => h) (.cons .here <| .nil)
set_option maxRecDepth 100000 in
set_option maxHeartbeats 4000000 in
theorem c_lmots_form_sum {G : GP} {p_f : T_lmots_form} {p_h : T_api_Hash} {r : (List (BitVec 8))} (h : lmots_form_sum p_f p_h = some r) : Ctr Tryz.prog G 182 [R_lmots_form.slot p_f, R_api_Hash.slot p_h] [] (fun (u0 : Value) => ov u0) (fun (u0 : Value) => [own 5 u8 u0 r]) := by
  unfold lmots_form_sum at h
  refine ctr_of_runM Tryz.func182 rfl 25 rfl rfl fun m0 w0 b0 => ?_
  show Run _ _ _ [(0, R_lmots_form.slot p_f), (1, R_api_Hash.slot p_h)] _
  refine rs ?_
  refine rt ?_
  refine jp (pj_box_to (ht rfl)) rfl rfl rfl ?_
  refine jp (pj_box_to (ht rfl)) rfl rfl rfl ?_
  refine j_assign_nil (T := 5) u8 rfl fun v1 => ?_
  refine j_end ?_
  refine rs ?_
  refine rt ?_
  refine j_alloc (x := 0) (R := i64) zero_i64 (by kernel_rfl) rfl fun b1 => ?_
  refine j_store_boxx (r' := (0 : Int)) (ht rfl) has_i64 .here (Path.all i64) (by kernel_rfl) rfl ?_
  refine j_end ?_
  refine rs ?_
  refine rs ?_
  refine rt ?_
  refine jp (pj_makeFunc (hc (ht rfl) <| hc (ht rfl) <| hasL_nil)) rfl rfl rfl ?_
  refine j_end ?_
  refine run_block ?_
  refine run_to (Γ' := [(2, ptrTo R_lmots_form p_f), (5, val (.pointer (some ⟨b1, 0, none⟩))), (7, fnS 187 [ptrTo R_lmots_form p_f, ptrTo R_api_Hash p_h])]) (H' := [box b1 3 i64 (0 : Int)]) (.cons (.of_lk rfl) <| .cons (.of_lk rfl) <| .cons (.of_lk rfl) <| .nil) (.cons .here <| .nil) ?_
  obtain ⟨y2, e2, h⟩ := bind_some h
  refine run_rangeFunc (σ := Int) (α := Int) (κ := Unit) (Es := fun (i : Unit) (s : Int) => [box b1 3 i64 s]) (y := (fun (s : Int) (d : Int) => lmots_form_sum_L1 p_f s d)) (sd := fun d => i64.slot d) (Γ1 := fun d => [(2, ptrTo R_lmots_form p_f), (5, val (.pointer (some ⟨b1, 0, none⟩))), (6, i64.slot d)]) () (ht rfl) (by kernel_rfl) rfl (.cons .here <| .nil) (fun l rc G' hG hY => (c_lmots_form_sum_1 (E := fun (s : Int) => packE fun (i : Unit) => [box b1 3 i64 s]) hY e2)) ?_ ?_ ?_
  · clear h e2
    rintro lz mz wz bz _ y1 d s2 h
    show Run _ _ _ ((8, i64.slot d) :: [(2, ptrTo R_lmots_form p_f), (5, val (.pointer (some ⟨b1, 0, none⟩))), (7, fnS 187 [ptrTo R_lmots_form p_f, ptrTo R_api_Hash p_h])]) [box b1 3 i64 y1]
    refine rt ?_
    refine jp (pa (ht rfl)) rfl rfl rfl ?_
    refine j_end ?_
    exact run_nil fun a w hst => ⟨rfl, (hst.sub (.cons (.of_lk rfl) <| .cons (.of_lk rfl) <| .cons (.of_lk rfl) <| .nil)).keep (.cons .here <| .nil)⟩
  · clear h e2
    rintro lz mz wz bz _ y1 d s2 h
    change lmots_form_sum_L1 p_f y1 d = some _ at h
    show Run _ _ _ [(2, ptrTo R_lmots_form p_f), (5, val (.pointer (some ⟨b1, 0, none⟩))), (6, i64.slot d)] [box b1 3 i64 y1]
    unfold lmots_form_sum_L1 at h
    refine run_block ?_
    obtain ⟨r1, e1, h⟩ := bind_some h
    refine run_draw (n := 5) (by kernel_rfl) (by kernel_rfl) (by kernel_rfl) (by kernel_rfl) (.read (.plain rfl (pj_load_box (ht rfl) .here (Path.all i64) (by kernel_rfl))) <| .read (.plain rfl (pl (ht rfl) (by kernel_rfl))) <| .read (.plain rfl (pj_call (hc (ht rfl) <| hasL_nil) (by kernel_rfl) (c_lmots_form_most e1))) <| .read (.plain rfl (pm (ht rfl))) <| .read (.plain rfl (pj_isub (ht rfl) (ht rfl))) <| .nil) (j_to (Γ' := [(5, val (.pointer (some ⟨b1, 0, none⟩))), (9, i64.slot y1), (13, i64.slot (w64 (r1 - d)))]) (H' := [box b1 3 i64 y1]) (.cons (.of_lk rfl) <| .cons (.of_lk rfl) <| .cons (.of_lk rfl) <| .nil) (.cons .here <| .nil) ?_)
    refine jp (pj_iadd (ht rfl) (ht rfl)) rfl rfl rfl ?_
    refine j_store_boxx (r' := w64 (y1 + (w64 (r1 - d)))) (ht rfl) (ht rfl) .here (Path.all i64) (by kernel_rfl) rfl ?_
    refine j_end ?_
    refine run_endblock ?_
    obtain rfl := oi h
    exact run_nil fun a w hst => ⟨rfl, (), (hst.sub .nil).keep (.cons .here <| .nil)⟩
  · rintro _
    show Run _ _ _ [(2, ptrTo R_lmots_form p_f), (5, val (.pointer (some ⟨b1, 0, none⟩))), (7, fnS 187 [ptrTo R_lmots_form p_f, ptrTo R_api_Hash p_h])] [box b1 3 i64 y2]
    refine run_to (Γ' := [(2, ptrTo R_lmots_form p_f), (5, val (.pointer (some ⟨b1, 0, none⟩)))]) (H' := [box b1 3 i64 y2]) (.cons (.of_lk rfl) <| .cons (.of_lk rfl) <| .nil) (.cons .here <| .nil) ?_
    refine run_endblock ?_
    refine rs ?_
    refine rt ?_
    refine jp (pj_load_box (ht rfl) .here (Path.all i64) (by kernel_rfl)) rfl rfl rfl ?_
    refine jp (pj_field_to (ht rfl) (Path.then (Path.snd i64 (prod i64 i64)) (Path.snd i64 i64)) (by kernel_rfl)) rfl rfl rfl ?_
    refine jp (pl (ht rfl) (by kernel_rfl)) rfl rfl rfl ?_
    obtain ⟨e3, h⟩ := grd_some h
    refine jp (pj_ishl (ht rfl) (ht rfl) isInt_i64 e3) rfl rfl rfl ?_
    refine j_store_boxx (r' := ishl y2 p_f.2.2) (ht rfl) (ht rfl) .here (Path.all i64) (by kernel_rfl) rfl ?_
    refine j_end ?_
    refine rs ?_
    refine rt ?_
    refine jp (pj_load_box (ht rfl) .here (Path.all i64) (by kernel_rfl)) rfl rfl rfl ?_
    refine jp (pj_ishr (ht rfl) (has_un (x := 8#64) rfl) isInt_un (Int.natCast_nonneg _)) rfl rfl rfl ?_
    refine jp (pj_conv_un (k := .u8) (b := 8) rfl rfl (by kernel_rfl) (ht rfl) isInt_i64) rfl rfl rfl ?_
    refine jp (pj_load_box (ht rfl) .here (Path.all i64) (by kernel_rfl)) rfl rfl rfl ?_
    refine jp (pj_conv_un (k := .u8) (b := 8) rfl rfl (by kernel_rfl) (ht rfl) isInt_i64) rfl rfl rfl ?_
    refine j_buildSlice (T := 5) (R := u8) (.cons (ht rfl) (.cons (ht rfl) .nil)) rfl (by kernel_rfl) (by kernel_rfl) rfl fun v2 => ?_
    refine jp (pa (ht rfl)) rfl rfl rfl ?_
    refine j_end ?_
    obtain rfl := oi h
    exact run_ret fun a w hst => q_ret1M hst rfl (.tmp rfl) v2 (fun _ _ h => h) (.cons .here <| .nil)
set_option maxRecDepth 100000 in
set_option maxHeartbeats 4000000 in
theorem c_lmots_form_digits_1 {G : GP} {Sy : Type} {yl : Sy → Int → Option Sy} {q_0 : T_lmots_form} {q_1 : List (BitVec 8)} {s0 : Sy} {L : Nat} {rc : Loop} {E : Sy → Ent} {r : Sy} (hY : ∀ s d s', yl s d = some s' → YieldC Tryz.prog G L rc (i64.slot d) (E s) (E s')) (h : lmots_form_digits_1 yl q_0 q_1 s0 = some r) : CtrY Tryz.prog G L rc 183 [val (yv L), ptrTo R_lmots_form q_0, ptrTo (sl u8) q_1] [E s0] (fun (_ : Unit) => tup []) (fun (_ : Unit) => [E r]) := by
  unfold lmots_form_digits_1 at h
  refine ctrY_of_run Tryz.func183 rfl 8 rfl rfl fun m0 w0 b0 hl hb => ?_
  show Run _ _ _ [(0, val (yv L)), (1, ptrTo R_lmots_form q_0), (2, ptrTo (sl u8) q_1)] _
  refine rt ?_
  refine jp (pl (ht rfl) (by kernel_rfl)) rfl rfl rfl ?_
  refine jp (pl (ht rfl) (by kernel_rfl)) rfl rfl rfl ?_
  refine jp (pm (ht rfl)) rfl rfl rfl ?_
  obtain ⟨y1, e2, h⟩ := bind_some h
  refine j_callY (hc (ht rfl) <| hc (ht rfl) <| hc (ht rfl) <| hasL_nil) (by kernel_rfl) hl hb (c_lmots_form_cut hY e2) rfl ?_
  refine j_end ?_
  obtain rfl := oi h
  exact run_nil fun a w hst => q_retN_n hst rfl (.nil) rfl () (fun _ _ h => h) (.cons .here <| .nil)
set_option maxRecDepth 100000 in
set_option maxHeartbeats 4000000 in
theorem c_lmots_form_digits {G : GP} {p_f : T_lmots_form} {p_h : T_api_Hash} {r : (List Int)} (h : lmots_form_digits p_f p_h = some r) : Ctr Tryz.prog G 163 [R_lmots_form.slot p_f, R_api_Hash.slot p_h] [] (fun (u0 : Value) => ov u0) (fun (u0 : Value) => [own 3 i64 u0 r]) := by
  unfold lmots_form_digits at h
  refine ctr_of_runM Tryz.func163 rfl 28 rfl rfl fun m0 w0 b0 => ?_
  show Run _ _ _ [(0, R_lmots_form.slot p_f), (1, R_api_Hash.slot p_h)] _
  refine rs ?_
  refine rt ?_
  refine jp (pj_box_to (ht rfl)) rfl rfl rfl ?_
  refine j_box (ht rfl) rfl fun b1 => ?_
  refine j_assign_nil (T := 3) i64 rfl fun v1 => ?_
  refine j_end ?_
  refine rs ?_
  refine rt ?_
  refine jp (pj_field_to (ht rfl) (Path.then (Path.snd i64 (prod i64 i64)) (Path.fst i64 i64)) (by kernel_rfl)) rfl rfl rfl ?_
  refine jp (pl (ht rfl) (by kernel_rfl)) rfl rfl rfl ?_
  obtain ⟨e1, h⟩ := grd_some h
  refine j_makeSlice (T := 3) (R := i64) (z := 0) has_i64 (ht rfl) (by decide) e1.1 e1.2 (by kernel_rfl) zero_i64 (by kernel_rfl) rfl fun v2 => ?_
  refine j_alloc (x := ([] : List Int)) (R := (sl i64)) zero_sl (by kernel_rfl) rfl fun b2 => ?_
  refine j_store_ow (ht rfl) (ht rfl) .here (by kernel_rfl) (by kernel_rfl) ?_
  refine j_end ?_
  refine rs ?_
  obtain ⟨r1, e2, h⟩ := bind_some h
  obtain ⟨e3, h⟩ := grd_some h
  refine run_keep (H' := [box b2 132 (exv v2) (), own 3 i64 v2 ([] : List Int), own 3 i64 v1 ([] : List Int), box b1 23 R_api_Hash p_h]) (.cons .here <| .cons .here <| .cons .here <| .cons .here <| .nil) ?_
  refine run_drawL (n := 6) (H := [box b2 132 (exv v2) (), own 3 i64 v2 ([] : List Int), own 3 i64 v1 ([] : List Int), box b1 23 R_api_Hash p_h]) (Ls := [⟨[], [(4, ⟨Value, fun (v3 : Value) => [own 5 u8 v3 (p_h.toList ++ r1)], fun (v3 : Value) => [(15, ov v3)]⟩)]⟩, ⟨[], [(5, ⟨Nat, fun (b3 : Nat) => [box b3 31 (sl u8) ([] : List (BitVec 8))], fun (b3 : Nat) => [(6, val (.pointer (some ⟨b3, 0, none⟩)))]⟩)]⟩]) (by kernel_rfl) (by kernel_rfl) (by kernel_rfl) (by kernel_rfl) (by kernel_rfl) rfl (.read rfl (.plain rfl (pj_slice_arrc (lo := 0) (sz := 1) (n := 32) (ht rfl) .no .no 32 32 rfl (by kernel_rfl))) <| .read rfl (.plain rfl (pl (ht rfl) (by kernel_rfl))) <| .read rfl (.plain rfl (pj_load_box (ht rfl) (.next (.next (.next .here))) (Path.all R_api_Hash) (by kernel_rfl))) <| .read rfl (.plain rfl (pj_call (hc (ht rfl) <| hc (ht rfl) <| hasL_nil) (by kernel_rfl) (Ctr.froze (c_lmots_form_sum e2)))) <| .step 0 rfl .here (.inl rfl) (fun i => ⟨_, _, fun j => j, (w_appendF (T := 5) (E := 5) (ht rfl) (src_arrF (ht rfl) (.next (.next (.next .here)))) (src_data (ht rfl)) (by kernel_rfl) (by kernel_rfl) e3 rfl), fun _ => rfl, slotAny, dst1⟩) <| .step 1 rfl .here (.inl rfl) (fun i => ⟨_, _, fun j => j, (w_alloc (x := ([] : List (BitVec 8))) (R := (sl u8)) zero_sl (by kernel_rfl) rfl), fun _ => rfl, slotAny, dst1⟩) <| .nil) ?_
  rintro v3 b3
  refine j_to (Γ' := [(2, ptrTo R_lmots_form p_f), (5, val (.pointer (some ⟨b2, 0, none⟩))), (6, val (.pointer (some ⟨b3, 0, none⟩))), (15, ov v3)]) (H' := [own 5 u8 v3 (p_h.toList ++ r1), box b3 31 (sl u8) ([] : List (BitVec 8)), box b2 132 (exv v2) (), own 3 i64 v2 ([] : List Int)]) (.cons (.of_lk rfl) <| .cons (.of_lk rfl) <| .cons (.of_lk rfl) <| .cons (.of_lk rfl) <| .nil) (.cons .here <| .cons .here <| .cons .here <| .cons .here <| .nil) ?_
  refine j_freeze [15] .here (frz_cons (.of_lk rfl) <| frz_nil) ?_
  refine j_store_boxx (r' := (p_h.toList ++ r1)) (ht rfl) (ht rfl) .here (Path.all (sl u8)) (by kernel_rfl) rfl ?_
  refine j_freezeTo (t := 6) .here (.of_lk rfl) ?_
  refine j_end ?_
  refine rs ?_
  refine rs ?_
  refine rt ?_
  refine jp (pj_makeFunc (hc (ht rfl) <| hc (ht rfl) <| hasL_nil)) rfl rfl rfl ?_
  refine j_end ?_
  refine run_block ?_
  refine run_to (Γ' := [(2, ptrTo R_lmots_form p_f), (5, val (.pointer (some ⟨b2, 0, none⟩))), (16, fnS 183 [ptrTo R_lmots_form p_f, ptrTo (sl u8) (p_h.toList ++ r1)])]) (H' := [box b2 132 (exv v2) (), own 3 i64 v2 ([] : List Int)]) (.cons (.of_lk rfl) <| .cons (.of_lk rfl) <| .cons (.of_lk rfl) <| .nil) (.cons .here <| .cons .here <| .nil) ?_
  obtain ⟨y2, e6, h⟩ := bind_some h
  refine run_rangeFunc (σ := (List Int)) (α := Int) (κ := Value) (Es := fun (i : Value) (s : (List Int)) => [box b2 132 (exv i) (), own 3 i64 i s]) (y := (fun (s : (List Int)) (d : Int) => lmots_form_digits_L1 p_f s d)) (sd := fun d => i64.slot d) (Γ1 := fun d => [(2, ptrTo R_lmots_form p_f), (5, val (.pointer (some ⟨b2, 0, none⟩))), (7, i64.slot d)]) v2 (ht rfl) (by kernel_rfl) rfl (.cons .here <| .cons .here <| .nil) (fun l rc G' hG hY => (c_lmots_form_digits_1 (E := fun (s : (List Int)) => packE fun (i : Value) => [box b2 132 (exv i) (), own 3 i64 i s]) hY e6)) ?_ ?_ ?_
  · clear h e6
    rintro lz mz wz bz v4 y1 d s2 h
    show Run _ _ _ ((17, i64.slot d) :: [(2, ptrTo R_lmots_form p_f), (5, val (.pointer (some ⟨b2, 0, none⟩))), (16, fnS 183 [ptrTo R_lmots_form p_f, ptrTo (sl u8) (p_h.toList ++ r1)])]) [box b2 132 (exv v4) (), own 3 i64 v4 y1]
    refine rt ?_
    refine jp (pa (ht rfl)) rfl rfl rfl ?_
    refine j_end ?_
    exact run_nil fun a w hst => ⟨rfl, (hst.sub (.cons (.of_lk rfl) <| .cons (.of_lk rfl) <| .cons (.of_lk rfl) <| .nil)).keep (.cons .here <| .cons .here <| .nil)⟩
  · clear h e6
    rintro lz mz wz bz v4 y1 d s2 h
    change lmots_form_digits_L1 p_f y1 d = some _ at h
    show Run _ _ _ [(2, ptrTo R_lmots_form p_f), (5, val (.pointer (some ⟨b2, 0, none⟩))), (7, i64.slot d)] [box b2 132 (exv v4) (), own 3 i64 v4 y1]
    unfold lmots_form_digits_L1 at h
    refine run_block ?_
    refine rs ?_
    refine rt ?_
    refine jp (pj_load_box (ht rfl) .here (Path.all (exv v4)) (by kernel_rfl)) rfl rfl rfl ?_
    refine jp (pj_len_own (sz := 1) (ht rfl) (.next .here) (by kernel_rfl)) rfl rfl rfl ?_
    refine jp (pj_field_to (ht rfl) (Path.then (Path.snd i64 (prod i64 i64)) (Path.fst i64 i64)) (by kernel_rfl)) rfl rfl rfl ?_
    refine jp (pl (ht rfl) (by kernel_rfl)) rfl rfl rfl ?_
    refine jp (pj_ilss (ht rfl) (ht rfl)) rfl rfl rfl ?_
    refine j_end ?_
    refine run_cond (ht rfl) (fun e4 => ?_) (fun e4 => ?_)
    · replace h := bt e4 h
      refine rt ?_
      refine jp (pj_load_box (ht rfl) .here (Path.all (exv v4)) (by kernel_rfl)) rfl rfl rfl ?_
      refine jp (pm (ht rfl)) rfl rfl rfl ?_
      refine jp (pj_buildSlice (T := 3) (R := i64) (.cons (ht rfl) .nil) rfl (by kernel_rfl) (by kernel_rfl)) rfl rfl rfl ?_
      obtain ⟨e5, h⟩ := grd_some h
      refine j_append (T := 3) (E := 3) (ht rfl) (.next .here) (src_data (ht rfl)) (by kernel_rfl) (by kernel_rfl) e5 rfl fun v5 => ?_
      refine j_store_ow (ht rfl) (ht rfl) (.next .here) (by kernel_rfl) (by kernel_rfl) ?_
      refine j_end ?_
      refine run_endblock ?_
      obtain rfl := oi h
      exact run_nil fun a w hst => ⟨rfl, v5, (hst.sub .nil).keep (.cons .here <| .cons .here <| .nil)⟩
    · replace h := bf e4 h
      refine run_skip ?_
      refine run_endblock ?_
      obtain rfl := oi h
      exact run_nil fun a w hst => ⟨rfl, v4, (hst.sub .nil).keep (.cons .here <| .cons .here <| .nil)⟩
  · rintro v6
    show Run _ _ _ [(2, ptrTo R_lmots_form p_f), (5, val (.pointer (some ⟨b2, 0, none⟩))), (16, fnS 183 [ptrTo R_lmots_form p_f, ptrTo (sl u8) (p_h.toList ++ r1)])] [box b2 132 (exv v6) (), own 3 i64 v6 y2]
    refine run_to (Γ' := [(5, val (.pointer (some ⟨b2, 0, none⟩)))]) (H' := [box b2 132 (exv v6) (), own 3 i64 v6 y2]) (.cons (.of_lk rfl) <| .nil) (.cons .here <| .cons .here <| .nil) ?_
    refine run_endblock ?_
    refine rs ?_
    refine rt ?_
    refine jp (pj_load_box (ht rfl) .here (Path.all (exv v6)) (by kernel_rfl)) rfl rfl rfl ?_
    refine jp (pa (ht rfl)) rfl rfl rfl ?_
    refine j_end ?_
    obtain rfl := oi h
    exact run_ret fun a w hst => q_ret1M hst rfl (.tmp rfl) v6 (fun _ _ h => h) (.cons (.next .here) <| .nil)
set_option maxRecDepth 100000 in
set_option maxHeartbeats 4000000 in
theorem c_lmots_Recover {G : GP} (hg0 : HG0 G) (hg1 : HG1 G) (hg2 : HG2 G) {p_id : T_api_ID} {p_q : BitVec 32} {p_message : List (BitVec 8)} {p_signature : List (BitVec 8)} {r : T_api_Hash × Bool} (h : lmots_Recover p_id p_q p_message p_signature = some r) : Ctr Tryz.prog G 144 [R_api_ID.slot p_id, u32.slot p_q, (sl u8).slot p_message, (sl u8).slot p_signature] [] (fun (_ : Unit) => tup [R_api_Hash.slot r.1, bl.slot r.2]) (fun (_ : Unit) => []) := by
  unfold lmots_Recover at h
  refine ctr_of_run Tryz.func144 rfl 77 rfl rfl fun m0 w0 b0 => ?_
  show Run _ _ _ [(0, R_api_ID.slot p_id), (1, u32.slot p_q), (2, (sl u8).slot p_message), (3, (sl u8).slot p_signature)] _
  refine rs ?_
  refine rt ?_
  refine jp (pj_box_to (ht rfl)) rfl rfl rfl ?_
  refine j_alloc (x := (Vector.replicate 32 (0#8))) (R := R_api_Hash) (zero_vec 32 zero_un) (by kernel_rfl) rfl fun b1 => ?_
  refine jp (pa has_bl) rfl rfl rfl ?_
  refine j_end ?_
  refine rs ?_
  refine rt ?_
  refine jp (pm (ht rfl)) rfl rfl rfl ?_
  obtain ⟨r1, e1, h⟩ := bind_some h
  refine j_call (hc (ht rfl) <| hasL_nil) (by kernel_rfl) (c_wire_New e1) .nil rfl fun b2 => ?_
  refine jp (pa (ht rfl)) rfl rfl rfl ?_
  refine j_end ?_
  refine rs ?_
  refine rt ?_
  refine jp (pm (ht rfl)) rfl rfl rfl ?_
  obtain ⟨r2, e2, h⟩ := bind_some h
  refine j_call (hc (ht rfl) <| hasL_nil) (by kernel_rfl) (c_wire_Reader_U32 e2) (.cons .here <| .nil) rfl fun _ => ?_
  refine jp (pa (ht rfl)) rfl rfl rfl ?_
  refine j_end ?_
  refine rs ?_
  refine rt ?_
  refine jp (pm (ht rfl)) rfl rfl rfl ?_
  refine jp (pj_conv_ui (by decide) (by kernel_rfl) (ht rfl)) rfl rfl rfl ?_
  obtain ⟨r3, e3, h⟩ := bind_some h
  refine jp (pj_call (hc (ht rfl) <| hasL_nil) (by kernel_rfl) (c_lmots_of hg0 e3)) rfl rfl rfl ?_
  refine jp (pm (ht rfl)) rfl rfl rfl ?_
  refine jp (pj_extract (ht rfl) rfl) rfl rfl rfl ?_
  refine jp (pj_extract (ht rfl) rfl) rfl rfl rfl ?_
  refine j_alloc (x := (0, 0, 0)) (R := R_lmots_form) (zero_prod zero_i64 (zero_prod zero_i64 zero_i64)) (by kernel_rfl) rfl fun b3 => ?_
  refine j_store_boxx (r' := r3.1) (ht rfl) (ht rfl) .here (Path.all R_lmots_form) (by kernel_rfl) rfl ?_
  refine j_freezeTo (t := 12) .here (.of_lk rfl) ?_
  refine jp (pa (ht rfl)) rfl rfl rfl ?_
  refine j_end ?_
  refine rs ?_
  refine rs ?_
  refine rt ?_
  refine jp (pm (ht rfl)) rfl rfl rfl ?_
  refine jp (pj_not (ht rfl)) rfl rfl rfl ?_
  refine jp (pm (ht rfl)) rfl rfl rfl ?_
  obtain ⟨y1, e5, h⟩ := bind_some h
  refine j_joinx (ι := Unit) (Γ' := fun _ => [(1, u32.slot p_q), (2, (sl u8).slot p_message), (4, ptrTo R_api_ID p_id), (8, val (.pointer (some ⟨b1, 0, none⟩))), (10, val (.pointer (some ⟨b2, 0, none⟩))), (12, ptrTo R_lmots_form r3.1), (37, bl.slot y1)]) (H' := fun _ => [box b2 208 (prod (sl u8) bl) (r2.1.1, r2.1.2), box b1 23 R_api_Hash (Vector.replicate 32 (0#8))]) 7 ?_ fun J => ?_
  · intro _
    clear e5
    show OpsJ _ _ _ [(1, u32.slot p_q), (2, (sl u8).slot p_message), (4, ptrTo R_api_ID p_id), (8, val (.pointer (some ⟨b1, 0, none⟩))), (10, val (.pointer (some ⟨b2, 0, none⟩))), (12, ptrTo R_lmots_form r3.1), (37, bl.slot y1)] [box b2 208 (prod (sl u8) bl) (r2.1.1, r2.1.2), box b1 23 R_api_Hash (Vector.replicate 32 (0#8))] _
    refine j_end ?_
    refine run_cond (ht rfl) (fun e7 => ?_) (fun e7 => ?_)
    · replace h := bt e7 h
      refine rs ?_
      refine rt ?_
      refine jp (pj_build (R := R_api_Hash) (zero_vec 32 zero_un) (by kernel_rfl) (by kernel_rfl) rfl .nil) rfl rfl rfl ?_
      refine j_store_boxx (r' := (Vector.replicate 32 (0#8))) (ht rfl) (ht rfl) (.next .here) (Path.all R_api_Hash) (by kernel_rfl) rfl ?_
      refine jp (pa has_bl) rfl rfl rfl ?_
      refine j_end ?_
      obtain rfl := oi h
      exact run_ret fun a w hst => q_retN hst rfl (.cons (.cell rfl .here (by kernel_rfl)) <| .cons (.tmp rfl) <| .nil) rfl () (fun _ _ h => h) (.nil)
    · replace h := bf e7 h
      refine run_skip ?_
      refine rs ?_
      refine rt ?_
      refine jp (pm (ht rfl)) rfl rfl rfl ?_
      obtain ⟨r5, e8, h⟩ := bind_some h
      refine j_call (hc (ht rfl) <| hc has_i64 <| hasL_nil) (by kernel_rfl) (c_wire_Reader_Plain e8) (.cons .here <| .nil) rfl fun _ => ?_
      refine jp (pa (ht rfl)) rfl rfl rfl ?_
      refine j_end ?_
      refine rs ?_
      refine rt ?_
      refine jp (pj_field_to (ht rfl) (Path.then (Path.snd i64 (prod i64 i64)) (Path.fst i64 i64)) (by kernel_rfl)) rfl rfl rfl ?_
      refine jp (pl (ht rfl) (by kernel_rfl)) rfl rfl rfl ?_
      obtain ⟨e9, h⟩ := grd_some h
      obtain ⟨x1, e10, h⟩ := bind_some h
      refine j_makeSlicex (T := 23) (R := R_api_Hash) (z := (Vector.replicate 32 (0#8))) (ht rfl) (ht rfl) e9.1 (Int.le_refl _) e9.2 (by kernel_rfl) (zero_vec 32 zero_un) (by kernel_rfl) (oi e10) rfl fun v1 => ?_
      refine jp (pa (ht rfl)) rfl rfl rfl ?_
      refine j_end ?_
      refine rs ?_
      refine rs ?_
      obtain ⟨r6, e11, h⟩ := bind_some h
      obtain ⟨r7, e12, h⟩ := bind_some h
      refine run_draw (n := 10) (by kernel_rfl) (by kernel_rfl) (by kernel_rfl) (by kernel_rfl) (.read (.plain rfl (pl (ht rfl) (by kernel_rfl))) <| .read (.plain rfl (pl (ht rfl) (by kernel_rfl))) <| .read (.plain rfl (pm (ht rfl))) <| .read (.plain rfl (pm (ht rfl))) <| .read (.plain rfl (pm (ht rfl))) <| .read (.plain rfl (pj_buildSlice (T := 31) (R := (sl u8)) (.cons (ht rfl) (.cons (ht rfl) .nil)) rfl (by kernel_rfl) (by kernel_rfl))) <| .read (.plain rfl (pj_call (hc (ht rfl) <| hc (ht rfl) <| hc has_i64 <| hc (ht rfl) <| hasL_nil) (by kernel_rfl) (c_lmots_under hg1 hg2 e11))) <| .read (.plain rfl (pj_call (hc (ht rfl) <| hc (ht rfl) <| hasL_nil) (by kernel_rfl) (Ctr.froze (c_lmots_form_digits e12)))) <| .read (.plain rfl (pj_len_sl (sz := 1) (ht rfl) (by kernel_rfl))) <| .read (.plain rfl (pm has_i64)) <| .nil) (j_to (Γ' := [(1, u32.slot p_q), (4, ptrTo R_api_ID p_id), (8, val (.pointer (some ⟨b1, 0, none⟩))), (10, val (.pointer (some ⟨b2, 0, none⟩))), (12, ptrTo R_lmots_form r3.1), (15, ov v1), (51, (sl i64).slot r7), (52, i64.slot (r7.length : Int)), (53, i64.slot (0 : Int))]) (H' := [own 23 R_api_Hash v1 x1, box b2 208 (prod (sl u8) bl) (r5.1.1, r5.1.2), box b1 23 R_api_Hash (Vector.replicate 32 (0#8))]) (.cons (.of_lk rfl) <| .cons (.of_lk rfl) <| .cons (.of_lk rfl) <| .cons (.of_lk rfl) <| .cons (.of_lk rfl) <| .cons (.of_lk rfl) <| .cons (.of_lk rfl) <| .cons (.of_lk rfl) <| .cons (.of_lk rfl) <| .nil) (.cons .here <| .cons .here <| .cons .here <| .nil) ?_)
      refine j_end ?_
      obtain ⟨⟨y6, y7, y8, y9⟩, e20, h⟩ := bind_some h
      refine run_loopS (Γi := fun (i : Unit) (s : Int × (List T_api_Hash) × (List (BitVec 8)) × Bool) => [(1, u32.slot p_q), (4, ptrTo R_api_ID p_id), (8, val (.pointer (some ⟨b1, 0, none⟩))), (10, val (.pointer (some ⟨b2, 0, none⟩))), (12, ptrTo R_lmots_form r3.1), (15, ov v1), (51, (sl i64).slot r7), (52, i64.slot (r7.length : Int)), (53, i64.slot s.1)]) (Hi := fun (i : Unit) (s : Int × (List T_api_Hash) × (List (BitVec 8)) × Bool) => [own 23 R_api_Hash v1 s.2.1, box b2 208 (prod (sl u8) bl) (s.2.2.1, s.2.2.2), box b1 23 R_api_Hash (Vector.replicate 32 (0#8))]) e20 () (fun a w hst => (hst.sub (.cons (.of_lk rfl) <| .cons (.of_lk rfl) <| .cons (.of_lk rfl) <| .cons (.of_lk rfl) <| .cons (.of_lk rfl) <| .cons (.of_lk rfl) <| .cons (.of_lk rfl) <| .cons (.of_lk rfl) <| .cons (.of_lk rfl) <| .nil)).keep (.cons .here <| .cons .here <| .cons .here <| .nil)) ?_ ?_
      · clear h e20
        rintro _ ⟨y2, y3, y4, y5⟩ lr h
        change lmots_Recover_L1 r7 r3 p_id p_q y2 y3 y4 y5 = some _ at h
        show Run _ _ _ [(1, u32.slot p_q), (4, ptrTo R_api_ID p_id), (8, val (.pointer (some ⟨b1, 0, none⟩))), (10, val (.pointer (some ⟨b2, 0, none⟩))), (12, ptrTo R_lmots_form r3.1), (15, ov v1), (51, (sl i64).slot r7), (52, i64.slot (r7.length : Int)), (53, i64.slot y2)] [own 23 R_api_Hash v1 y3, box b2 208 (prod (sl u8) bl) (y4, y5), box b1 23 R_api_Hash (Vector.replicate 32 (0#8))]
        unfold lmots_Recover_L1 at h
        refine rs ?_
        refine rt ?_
        refine jp (pj_ilss (ht rfl) (ht rfl)) rfl rfl rfl ?_
        refine j_end ?_
        refine rs ?_
        refine run_cond (ht rfl) (fun e13 => ?_) (fun e13 => ?_)
        · replace h := bt e13 h
          refine run_skip ?_
          refine rs ?_
          refine run_block ?_
          refine rs ?_
          refine rt ?_
          refine jp (pm (ht rfl)) rfl rfl rfl ?_
          obtain ⟨x2, e14, h⟩ := bind_some h
          refine jp (pj_index_slx (ht rfl) (ht rfl) isInt_i64 e14 (by kernel_rfl)) rfl rfl rfl ?_
          refine jp (pl (ht rfl) (by kernel_rfl)) rfl rfl rfl ?_
          refine jp (pa (ht rfl)) rfl rfl rfl ?_
          refine jp (pa (ht rfl)) rfl rfl rfl ?_
          refine j_end ?_
          obtain ⟨r8, e15, h⟩ := bind_some h
          obtain ⟨x3, e16, h⟩ := bind_some h
          obtain ⟨r9, e17, h⟩ := bind_some h
          obtain ⟨r10, e18, h⟩ := bind_some h
          refine run_keep (H' := [box b2 208 (prod (sl u8) bl) (y4, y5), own 23 R_api_Hash v1 y3, box b1 23 R_api_Hash (Vector.replicate 32 (0#8))]) (.cons (.next .here) <| .cons .here <| .cons .here <| .nil) ?_
          refine run_drawL (n := 13) (H := [own 23 R_api_Hash v1 y3, box b1 23 R_api_Hash (Vector.replicate 32 (0#8))]) (Ls := [⟨[box b2 208 (prod (sl u8) bl) (y4, y5)], [(6, ⟨Unit, fun (_ : Unit) => [box b2 208 (prod (sl u8) bl) (r8.1.1, r8.1.2)], fun (_ : Unit) => [(64, (sl u8).slot r8.2)]⟩)]⟩]) (by kernel_rfl) (by kernel_rfl) (by kernel_rfl) (by kernel_rfl) (by kernel_rfl) rfl (.read rfl (.plain rfl (pm (ht rfl))) <| .read rfl (.plain rfl (pm (ht rfl))) <| .read rfl (.plain rfl (pl (ht rfl) (by kernel_rfl))) <| .read rfl (.plain rfl (pm (ht rfl))) <| .read rfl (.plain rfl (pm (ht rfl))) <| .read rfl (.plain rfl (pm (ht rfl))) <| .step 0 rfl .here (.inl rfl) (fun i => ⟨_, _, fun _ => (), (w_call (hc (ht rfl) <| hc has_i64 <| hasL_nil) (by kernel_rfl) (c_wire_Reader_Plain e15) (.cons .here <| .nil) rfl), fun _ => rfl, slotIs, dst1⟩) <| .read rfl (.plain rfl (pj_s2apx (e := 5) (ht rfl) e16 rfl (by kernel_rfl))) <| .read rfl (.plain rfl (pl (ht rfl) (by kernel_rfl))) <| .read rfl (.plain rfl (pm (ht rfl))) <| .read rfl (.plain rfl (pl (ht rfl) (by kernel_rfl))) <| .read rfl (.plain rfl (pj_call (hc (ht rfl) <| hasL_nil) (by kernel_rfl) (c_lmots_form_most e17))) <| .read rfl (.plain rfl (pj_call (hc (ht rfl) <| hc (ht rfl) <| hc (ht rfl) <| hc (ht rfl) <| hc (ht rfl) <| hc (ht rfl) <| hasL_nil) (by kernel_rfl) (c_lmots_chain hg1 hg2 e18))) <| .nil) ?_
          rintro _
          refine j_to (Γ' := [(1, u32.slot p_q), (4, ptrTo R_api_ID p_id), (8, val (.pointer (some ⟨b1, 0, none⟩))), (10, val (.pointer (some ⟨b2, 0, none⟩))), (12, ptrTo R_lmots_form r3.1), (15, ov v1), (51, (sl i64).slot r7), (52, i64.slot (r7.length : Int)), (53, i64.slot y2), (58, ov v1), (59, i64.slot y2), (70, R_api_Hash.slot r10)]) (H' := [box b2 208 (prod (sl u8) bl) (r8.1.1, r8.1.2), own 23 R_api_Hash v1 y3, box b1 23 R_api_Hash (Vector.replicate 32 (0#8))]) (.cons (.of_lk rfl) <| .cons (.of_lk rfl) <| .cons (.of_lk rfl) <| .cons (.of_lk rfl) <| .cons (.of_lk rfl) <| .cons (.of_lk rfl) <| .cons (.of_lk rfl) <| .cons (.of_lk rfl) <| .cons (.of_lk rfl) <| .cons (.of_lk rfl) <| .cons (.of_lk rfl) <| .cons (.of_lk rfl) <| .nil) (.cons .here <| .cons .here <| .cons .here <| .nil) ?_
          obtain ⟨e19, h⟩ := grd_some h
          refine jp (pj_index_own (ht rfl) (.next .here) (ht rfl) isInt_i64 e19.1 (lt_nat e19) (by kernel_rfl)) rfl rfl rfl ?_
          refine j_store_own0 R_api_Hash (y2.toNat) (ht rfl) (ht rfl) (.next .here) (lt_nat e19) (by kernel_rfl) ?_
          refine j_end ?_
          refine run_endblock ?_
          refine rt ?_
          refine jp (pj_iadd (ht rfl) has_i64) rfl rfl rfl ?_
          refine jp (pm (ht rfl)) rfl rfl rfl ?_
          refine j_end ?_
          obtain rfl := oi h
          exact run_next () (.cons (.of_lk rfl) <| .cons (.of_lk rfl) <| .cons (.of_lk rfl) <| .cons (.of_lk rfl) <| .cons (.of_lk rfl) <| .cons (.of_lk rfl) <| .cons (.of_lk rfl) <| .cons (.of_lk rfl) <| .cons (.of_lk rfl) <| .nil) (.cons .here <| .cons .here <| .cons .here <| .nil)
        · replace h := bf e13 h
          obtain rfl := oi h
          exact run_brk () (.cons (.of_lk rfl) <| .cons (.of_lk rfl) <| .cons (.of_lk rfl) <| .cons (.of_lk rfl) <| .cons (.of_lk rfl) <| .cons (.of_lk rfl) <| .cons (.of_lk rfl) <| .cons (.of_lk rfl) <| .cons (.of_lk rfl) <| .nil) (.cons .here <| .cons .here <| .cons .here <| .nil)
      · rintro _
        show Run _ _ _ [(1, u32.slot p_q), (4, ptrTo R_api_ID p_id), (8, val (.pointer (some ⟨b1, 0, none⟩))), (10, val (.pointer (some ⟨b2, 0, none⟩))), (12, ptrTo R_lmots_form r3.1), (15, ov v1), (51, (sl i64).slot r7), (52, i64.slot (r7.length : Int)), (53, i64.slot y6)] [own 23 R_api_Hash v1 y7, box b2 208 (prod (sl u8) bl) (y8, y9), box b1 23 R_api_Hash (Vector.replicate 32 (0#8))]
        refine run_to (Γ' := [(1, u32.slot p_q), (4, ptrTo R_api_ID p_id), (8, val (.pointer (some ⟨b1, 0, none⟩))), (15, ov v1)]) (H' := [own 23 R_api_Hash v1 y7, box b1 23 R_api_Hash (Vector.replicate 32 (0#8))]) (.cons (.of_lk rfl) <| .cons (.of_lk rfl) <| .cons (.of_lk rfl) <| .cons (.of_lk rfl) <| .nil) (.cons .here <| .cons (.next .here) <| .nil) ?_
        refine rs ?_
        refine rt ?_
        refine jp (pl (ht rfl) (by kernel_rfl)) rfl rfl rfl ?_
        refine jp (pm (ht rfl)) rfl rfl rfl ?_
        refine jp (pm (ht rfl)) rfl rfl rfl ?_
        obtain ⟨r11, e21, h⟩ := bind_some h
        refine jp (pj_callB (hasBL_cons (hasB_of (ht rfl)) <| hasBL_cons (hasB_of (ht rfl)) <| hasBL_cons (hasB_own (ht rfl) .here) <| hasBL_nil) (by kernel_rfl) (c_lmots_folded hg1 hg2 e21) (Rep.flat_slot (flat_vec _ (flat_un _ _)) _)) rfl rfl rfl ?_
        refine j_store_boxx (r' := r11) (ht rfl) (ht rfl) (.next .here) (Path.all R_api_Hash) (by kernel_rfl) rfl ?_
        refine jp (pa has_bl) rfl rfl rfl ?_
        refine j_end ?_
        obtain rfl := oi h
        exact run_ret fun a w hst => q_retN hst rfl (.cons (.cell rfl .here (by kernel_rfl)) <| .cons (.tmp rfl) <| .nil) rfl () (fun _ _ h => h) (.nil)
  · rcases bool_tf (!r3.2) with e4 | e4
    · replace e5 := bt e4 e5
      refine j_guard_no2 (j := 2) (want := false) rfl rfl rfl rfl (bl_isx e4) rfl rfl rfl ?_
      refine j_guard_no2 (j := 2) (want := false) rfl rfl rfl rfl (bl_isx e4) rfl rfl rfl ?_
      refine j_guard_no2 (j := 2) (want := false) rfl rfl rfl rfl (bl_isx e4) rfl rfl rfl ?_
      refine j_guard_no2 (j := 2) (want := false) rfl rfl rfl rfl (bl_isx e4) rfl rfl rfl ?_
      refine j_guard_no2 (j := 2) (want := false) rfl rfl rfl rfl (bl_isx e4) rfl rfl rfl ?_
      refine j_guard_no2 (j := 2) (want := false) rfl rfl rfl rfl (bl_isx e4) rfl rfl rfl ?_
      refine jp (PJ.eqv (R := bl) (pj_pick (t := any) (ht rfl) (fun _ => has_bl) (fun he => absurd (e4.symm.trans he) (by decide))) (oi e5)) rfl rfl rfl ?_
      exact j_to (.cons (.of_lk rfl) <| .cons (.of_lk rfl) <| .cons (.of_lk rfl) <| .cons (.of_lk rfl) <| .cons (.of_lk rfl) <| .cons (.of_lk rfl) <| .cons (.of_lk rfl) <| .nil) (.cons .here <| .cons .here <| .nil) (J ())
    · replace e5 := bf e4 e5
      refine jy (pm (ht rfl)) rfl rfl rfl rfl (bl_isx e4) rfl rfl ?_
      refine jy (pj_len_sl (sz := 1) (ht rfl) (by kernel_rfl)) rfl rfl rfl rfl (bl_isx e4) rfl rfl ?_
      refine jy (pm (ht rfl)) rfl rfl rfl rfl (bl_isx e4) rfl rfl ?_
      refine jy (pj_conv_ui (by decide) (by kernel_rfl) (ht rfl)) rfl rfl rfl rfl (bl_isx e4) rfl rfl ?_
      obtain ⟨r4, e6, e5⟩ := bind_some e5
      refine jy (pj_call (hc (ht rfl) <| hasL_nil) (by kernel_rfl) (c_lmots_Size hg0 e6)) rfl rfl rfl rfl (bl_isx e4) rfl rfl ?_
      refine jy (pj_ineq (ht rfl) (ht rfl)) rfl rfl rfl rfl (bl_isx e4) rfl rfl ?_
      refine jp (PJ.eqv (R := bl) (pj_pick (t := any) (ht rfl) (fun he => absurd (e4.symm.trans he) (by decide)) (fun _ => (ht rfl))) (oi e5)) rfl rfl rfl ?_
      exact j_to (.cons (.of_lk rfl) <| .cons (.of_lk rfl) <| .cons (.of_lk rfl) <| .cons (.of_lk rfl) <| .cons (.of_lk rfl) <| .cons (.of_lk rfl) <| .cons (.of_lk rfl) <| .nil) (.cons .here <| .cons .here <| .nil) (J ())
set_option maxRecDepth 100000 in
set_option maxHeartbeats 4000000 in
theorem c_lms_climb {G : GP} (hg1 : HG1 G) (hg2 : HG2 G) {p_id : T_api_ID} {p_r : Int} {p_h : T_api_Hash} {p_path : List T_api_Hash} {r : T_api_Hash} (h : lms_climb p_id p_r p_h p_path = some r) : Ctr Tryz.prog G 145 [R_api_ID.slot p_id, i64.slot p_r, R_api_Hash.slot p_h, (sl R_api_Hash).slot p_path] [] (fun (_ : Unit) => R_api_Hash.slot r) (fun (_ : Unit) => []) := by
  unfold lms_climb at h
  refine ctr_of_run Tryz.func145 rfl 35 rfl rfl fun m0 w0 b0 => ?_
  show Run _ _ _ [(0, R_api_ID.slot p_id), (1, i64.slot p_r), (2, R_api_Hash.slot p_h), (3, (sl R_api_Hash).slot p_path)] _
  refine rs ?_
  refine rt ?_
  refine jp (pj_box_to (ht rfl)) rfl rfl rfl ?_
  refine j_box (ht rfl) rfl fun b1 => ?_
  refine j_alloc (x := (Vector.replicate 32 (0#8))) (R := R_api_Hash) (zero_vec 32 zero_un) (by kernel_rfl) rfl fun b2 => ?_
  refine j_end ?_
  refine rs ?_
  refine rs ?_
  refine rt ?_
  refine jp (pm (ht rfl)) rfl rfl rfl ?_
  refine jp (pj_len_sl (sz := 32) (ht rfl) (by kernel_rfl)) rfl rfl rfl ?_
  refine jp (pm has_i64) rfl rfl rfl ?_
  refine j_end ?_
  obtain ⟨⟨y6, y7, y8⟩, e6, h⟩ := bind_some h
  refine run_loopS (Γi := fun (i : Unit) (s : Int × Int × T_api_Hash) => [(1, i64.slot s.1), (4, ptrTo R_api_ID p_id), (6, val (.pointer (some ⟨b1, 0, none⟩))), (8, val (.pointer (some ⟨b2, 0, none⟩))), (13, (sl R_api_Hash).slot p_path), (14, i64.slot (p_path.length : Int)), (15, i64.slot s.2.1)]) (Hi := fun (i : Unit) (s : Int × Int × T_api_Hash) => [box b2 23 R_api_Hash (Vector.replicate 32 (0#8)), box b1 23 R_api_Hash s.2.2]) e6 () (fun a w hst => (hst.sub (.cons (.of_lk rfl) <| .cons (.of_lk rfl) <| .cons (.of_lk rfl) <| .cons (.of_lk rfl) <| .cons (.of_lk rfl) <| .cons (.of_lk rfl) <| .cons (.of_lk rfl) <| .nil)).keep (.cons .here <| .cons .here <| .nil)) ?_ ?_
  · clear h e6
    rintro _ ⟨y1, y2, y3⟩ lr h
    change lms_climb_L1 p_path p_id y1 y2 y3 = some _ at h
    show Run _ _ _ [(1, i64.slot y1), (4, ptrTo R_api_ID p_id), (6, val (.pointer (some ⟨b1, 0, none⟩))), (8, val (.pointer (some ⟨b2, 0, none⟩))), (13, (sl R_api_Hash).slot p_path), (14, i64.slot (p_path.length : Int)), (15, i64.slot y2)] [box b2 23 R_api_Hash (Vector.replicate 32 (0#8)), box b1 23 R_api_Hash y3]
    unfold lms_climb_L1 at h
    refine rs ?_
    refine rt ?_
    refine jp (pj_ilss (ht rfl) (ht rfl)) rfl rfl rfl ?_
    refine j_end ?_
    refine rs ?_
    refine run_cond (ht rfl) (fun e1 => ?_) (fun e1 => ?_)
    · replace h := bt e1 h
      refine run_skip ?_
      refine rs ?_
      refine run_block ?_
      refine rs ?_
      refine rt ?_
      obtain ⟨x1, e2, h⟩ := bind_some h
      refine jp (pj_index_slx (ht rfl) (ht rfl) isInt_i64 e2 (by kernel_rfl)) rfl rfl rfl ?_
      refine jp (pl (ht rfl) (by kernel_rfl)) rfl rfl rfl ?_
      refine j_alloc (x := (Vector.replicate 32 (0#8))) (R := R_api_Hash) (zero_vec 32 zero_un) (by kernel_rfl) rfl fun b3 => ?_
      refine j_store_boxx (r' := x1) (ht rfl) (ht rfl) .here (Path.all R_api_Hash) (by kernel_rfl) rfl ?_
      refine j_freezeTo (t := 10) .here (.of_lk rfl) ?_
      refine j_end ?_
      refine rs ?_
      refine run_keep (H' := [box b2 23 R_api_Hash (Vector.replicate 32 (0#8)), box b1 23 R_api_Hash y3]) (.cons .here <| .cons .here <| .nil) ?_
      refine run_drawL (n := 5) (H := [box b2 23 R_api_Hash (Vector.replicate 32 (0#8)), box b1 23 R_api_Hash y3]) (Ls := [⟨[], [(2, ⟨Nat, fun (b4 : Nat) => [box b4 23 R_api_Hash (Vector.replicate 32 (0#8))], fun (b4 : Nat) => [(11, val (.pointer (some ⟨b4, 0, none⟩)))]⟩), (4, ⟨Nat, fun (b4 : Nat) => [box b4 23 R_api_Hash y3], fun (b4 : Nat) => [(11, val (.pointer (some ⟨b4, 0, none⟩)))]⟩)]⟩, ⟨[], [(3, ⟨Nat, fun (b5 : Nat) => [box b5 23 R_api_Hash (Vector.replicate 32 (0#8))], fun (b5 : Nat) => [(12, val (.pointer (some ⟨b5, 0, none⟩)))]⟩)]⟩]) (by kernel_rfl) (by kernel_rfl) (by kernel_rfl) (by kernel_rfl) (by kernel_rfl) rfl (.read rfl (.plain rfl (pj_load_box (ht rfl) (.next .here) (Path.all R_api_Hash) (by kernel_rfl))) <| .read rfl (.plain rfl (pl (ht rfl) (by kernel_rfl))) <| .step 0 rfl .here (.inl rfl) (fun i => ⟨_, _, fun j => j, (w_alloc (x := (Vector.replicate 32 (0#8))) (R := R_api_Hash) (zero_vec 32 zero_un) (by kernel_rfl) rfl), fun _ => rfl, slotAny, dst1⟩) <| .step 1 rfl .here (.inl rfl) (fun i => ⟨_, _, fun j => j, (w_alloc (x := (Vector.replicate 32 (0#8))) (R := R_api_Hash) (zero_vec 32 zero_un) (by kernel_rfl) rfl), fun _ => rfl, slotAny, dst1⟩) <| .step 0 rfl (.next .here) (.inl rfl) (fun i => ⟨_, _, fun _ => i, (w_store (r' := y3) (ht rfl) (ht rfl) .here (Path.all R_api_Hash) (by kernel_rfl) rfl), fun _ => rfl, (slotNo (s := any)), dst0⟩) <| .nil) ?_
      rintro b4 b5
      refine j_to (Γ' := [(1, i64.slot y1), (4, ptrTo R_api_ID p_id), (6, val (.pointer (some ⟨b1, 0, none⟩))), (8, val (.pointer (some ⟨b2, 0, none⟩))), (10, ptrTo R_api_Hash x1), (11, val (.pointer (some ⟨b4, 0, none⟩))), (12, val (.pointer (some ⟨b5, 0, none⟩))), (13, (sl R_api_Hash).slot p_path), (14, i64.slot (p_path.length : Int)), (15, i64.slot y2), (20, R_api_Hash.slot x1)]) (H' := [box b4 23 R_api_Hash y3, box b5 23 R_api_Hash (Vector.replicate 32 (0#8)), box b2 23 R_api_Hash (Vector.replicate 32 (0#8)), box b1 23 R_api_Hash y3]) (.cons (.of_lk rfl) <| .cons (.of_lk rfl) <| .cons (.of_lk rfl) <| .cons (.of_lk rfl) <| .cons (.of_lk rfl) <| .cons (.of_lk rfl) <| .cons (.of_lk rfl) <| .cons (.of_lk rfl) <| .cons (.of_lk rfl) <| .cons (.of_lk rfl) <| .cons (.of_lk rfl) <| .nil) (.cons .here <| .cons .here <| .cons .here <| .cons .here <| .nil) ?_
      refine j_store_boxx (r' := x1) (ht rfl) (ht rfl) (.next .here) (Path.all R_api_Hash) (by kernel_rfl) rfl ?_
      refine j_end ?_
      refine rs ?_
      refine rs ?_
      refine rt ?_
      refine jp (pm (ht rfl)) rfl rfl rfl ?_
      refine jp (pj_irem (ht rfl) has_i64 (by decide)) rfl rfl rfl ?_
      refine jp (pj_ieql (ht rfl) has_i64) rfl rfl rfl ?_
      refine j_end ?_
      obtain ⟨⟨y4, y5⟩, e4, h⟩ := bind_some h
      refine run_joinx (ι := Unit) (Γ' := fun (_ : Unit) => [(1, i64.slot y1), (4, ptrTo R_api_ID p_id), (6, val (.pointer (some ⟨b1, 0, none⟩))), (8, val (.pointer (some ⟨b2, 0, none⟩))), (11, val (.pointer (some ⟨b4, 0, none⟩))), (12, val (.pointer (some ⟨b5, 0, none⟩))), (13, (sl R_api_Hash).slot p_path), (14, i64.slot (p_path.length : Int)), (15, i64.slot y2)]) (H' := fun (_ : Unit) => [box b5 23 R_api_Hash y4, box b4 23 R_api_Hash y5, box b2 23 R_api_Hash (Vector.replicate 32 (0#8)), box b1 23 R_api_Hash y3]) ?_ fun J => ?_
      · intro _
        clear e4
        show Run _ _ _ [(1, i64.slot y1), (4, ptrTo R_api_ID p_id), (6, val (.pointer (some ⟨b1, 0, none⟩))), (8, val (.pointer (some ⟨b2, 0, none⟩))), (11, val (.pointer (some ⟨b4, 0, none⟩))), (12, val (.pointer (some ⟨b5, 0, none⟩))), (13, (sl R_api_Hash).slot p_path), (14, i64.slot (p_path.length : Int)), (15, i64.slot y2)] [box b5 23 R_api_Hash y4, box b4 23 R_api_Hash y5, box b2 23 R_api_Hash (Vector.replicate 32 (0#8)), box b1 23 R_api_Hash y3]
        refine rs ?_
        refine rt ?_
        refine jp (pm (ht rfl)) rfl rfl rfl ?_
        refine jp (pj_iquo (ht rfl) has_i64 (by decide)) rfl rfl rfl ?_
        refine jp (pa (ht rfl)) rfl rfl rfl ?_
        refine j_end ?_
        refine rt ?_
        refine jp (pl (ht rfl) (by kernel_rfl)) rfl rfl rfl ?_
        refine jp (pm (ht rfl)) rfl rfl rfl ?_
        refine jp (pj_load_box (ht rfl) (.next .here) (Path.all R_api_Hash) (by kernel_rfl)) rfl rfl rfl ?_
        refine jp (pj_load_box (ht rfl) .here (Path.all R_api_Hash) (by kernel_rfl)) rfl rfl rfl ?_
        obtain ⟨r1, e5, h⟩ := bind_some h
        refine jp (pj_call (hc (ht rfl) <| hc (ht rfl) <| hc (ht rfl) <| hc (ht rfl) <| hasL_nil) (by kernel_rfl) (c_lms_inner hg1 hg2 e5)) rfl rfl rfl ?_
        refine j_store_boxx (r' := r1) (ht rfl) (ht rfl) (.next (.next (.next .here))) (Path.all R_api_Hash) (by kernel_rfl) rfl ?_
        refine j_end ?_
        refine run_endblock ?_
        refine rt ?_
        refine jp (pj_iadd (ht rfl) has_i64) rfl rfl rfl ?_
        refine jp (pm (ht rfl)) rfl rfl rfl ?_
        refine j_end ?_
        obtain rfl := oi h
        exact run_next () (.cons (.of_lk rfl) <| .cons (.of_lk rfl) <| .cons (.of_lk rfl) <| .cons (.of_lk rfl) <| .cons (.of_lk rfl) <| .cons (.of_lk rfl) <| .cons (.of_lk rfl) <| .nil) (.cons (.next (.next (.next .here))) <| .cons .here <| .nil)
      · refine run_cond (ht rfl) (fun e3 => ?_) (fun e3 => ?_)
        · replace h := bt e3 e4
          refine run_keep (H' := [box b4 23 R_api_Hash y3, box b5 23 R_api_Hash x1, box b2 23 R_api_Hash (Vector.replicate 32 (0#8)), box b1 23 R_api_Hash y3]) (.cons (.next .here) <| .cons .here <| .cons .here <| .cons .here <| .nil) ?_
          refine run_drawL (n := 3) (H := [box b5 23 R_api_Hash x1, box b2 23 R_api_Hash (Vector.replicate 32 (0#8)), box b1 23 R_api_Hash y3]) (Ls := [⟨[box b4 23 R_api_Hash y3], [(2, ⟨Unit, fun (_ : Unit) => [box b4 23 R_api_Hash x1], fun (_ : Unit) => []⟩)]⟩]) (by kernel_rfl) (by kernel_rfl) (by kernel_rfl) (by kernel_rfl) (by kernel_rfl) rfl (.read rfl (.plain rfl (pl (ht rfl) (by kernel_rfl))) <| .read rfl (.plain rfl (pj_load_box (ht rfl) (.next (.next .here)) (Path.all R_api_Hash) (by kernel_rfl))) <| .step 0 rfl .here (.inl rfl) (fun i => ⟨_, _, fun _ => (), (w_store (r' := x1) (ht rfl) (ht rfl) .here (Path.all R_api_Hash) (by kernel_rfl) rfl), fun _ => rfl, (slotNo (s := any)), dst0⟩) <| .nil) ?_
          rintro _
          refine j_to (Γ' := [(1, i64.slot y1), (4, ptrTo R_api_ID p_id), (6, val (.pointer (some ⟨b1, 0, none⟩))), (8, val (.pointer (some ⟨b2, 0, none⟩))), (11, val (.pointer (some ⟨b4, 0, none⟩))), (12, val (.pointer (some ⟨b5, 0, none⟩))), (13, (sl R_api_Hash).slot p_path), (14, i64.slot (p_path.length : Int)), (15, i64.slot y2), (25, R_api_Hash.slot y3)]) (H' := [box b4 23 R_api_Hash x1, box b5 23 R_api_Hash x1, box b2 23 R_api_Hash (Vector.replicate 32 (0#8)), box b1 23 R_api_Hash y3]) (.cons (.of_lk rfl) <| .cons (.of_lk rfl) <| .cons (.of_lk rfl) <| .cons (.of_lk rfl) <| .cons (.of_lk rfl) <| .cons (.of_lk rfl) <| .cons (.of_lk rfl) <| .cons (.of_lk rfl) <| .cons (.of_lk rfl) <| .cons (.of_lk rfl) <| .nil) (.cons .here <| .cons .here <| .cons .here <| .cons .here <| .nil) ?_
          refine j_store_boxx (r' := y3) (ht rfl) (ht rfl) (.next .here) (Path.all R_api_Hash) (by kernel_rfl) rfl ?_
          refine j_end ?_
          obtain ⟨rfl, rfl⟩ := Prod.mk.inj (oi h)
          exact run_to (.cons (.of_lk rfl) <| .cons (.of_lk rfl) <| .cons (.of_lk rfl) <| .cons (.of_lk rfl) <| .cons (.of_lk rfl) <| .cons (.of_lk rfl) <| .cons (.of_lk rfl) <| .cons (.of_lk rfl) <| .cons (.of_lk rfl) <| .nil) (.cons .here <| .cons .here <| .cons .here <| .cons .here <| .nil) (J ())
        · replace h := bf e3 e4
          refine run_skip ?_
          obtain ⟨rfl, rfl⟩ := Prod.mk.inj (oi h)
          exact run_to (.cons (.of_lk rfl) <| .cons (.of_lk rfl) <| .cons (.of_lk rfl) <| .cons (.of_lk rfl) <| .cons (.of_lk rfl) <| .cons (.of_lk rfl) <| .cons (.of_lk rfl) <| .cons (.of_lk rfl) <| .cons (.of_lk rfl) <| .nil) (.cons .here <| .cons .here <| .cons .here <| .cons .here <| .nil) (J ())
    · replace h := bf e1 h
      obtain rfl := oi h
      exact run_brk () (.cons (.of_lk rfl) <| .cons (.of_lk rfl) <| .cons (.of_lk rfl) <| .cons (.of_lk rfl) <| .cons (.of_lk rfl) <| .cons (.of_lk rfl) <| .cons (.of_lk rfl) <| .nil) (.cons .here <| .cons .here <| .nil)
  · rintro _
    show Run _ _ _ [(1, i64.slot y6), (4, ptrTo R_api_ID p_id), (6, val (.pointer (some ⟨b1, 0, none⟩))), (8, val (.pointer (some ⟨b2, 0, none⟩))), (13, (sl R_api_Hash).slot p_path), (14, i64.slot (p_path.length : Int)), (15, i64.slot y7)] [box b2 23 R_api_Hash (Vector.replicate 32 (0#8)), box b1 23 R_api_Hash y8]
    refine run_to (Γ' := [(6, val (.pointer (some ⟨b1, 0, none⟩))), (8, val (.pointer (some ⟨b2, 0, none⟩)))]) (H' := [box b2 23 R_api_Hash (Vector.replicate 32 (0#8)), box b1 23 R_api_Hash y8]) (.cons (.of_lk rfl) <| .cons (.of_lk rfl) <| .nil) (.cons .here <| .cons .here <| .nil) ?_
    refine rs ?_
    refine rt ?_
    refine jp (pj_load_box (ht rfl) (.next .here) (Path.all R_api_Hash) (by kernel_rfl)) rfl rfl rfl ?_
    refine j_store_boxx (r' := y8) (ht rfl) (ht rfl) .here (Path.all R_api_Hash) (by kernel_rfl) rfl ?_
    refine j_end ?_
    obtain rfl := oi h
    exact run_ret fun a w hst => q_ret1 hst rfl (.cell rfl .here (by kernel_rfl)) () (fun _ _ h => h) (.nil)
set_option maxRecDepth 100000 in
set_option maxHeartbeats 4000000 in
theorem c_slices_Equal_byte_byte {G : GP} {p_s1 : List (BitVec 8)} {p_s2 : List (BitVec 8)} {r : Bool} (h : slices_Equal_byte_byte p_s1 p_s2 = some r) : Ctr Tryz.prog G 146 [(sl u8).slot p_s1, (sl u8).slot p_s2] [] (fun (_ : Unit) => bl.slot r) (fun (_ : Unit) => []) := by
  unfold slices_Equal_byte_byte at h
  refine ctr_of_run Tryz.func146 rfl 26 rfl rfl fun m0 w0 b0 => ?_
  refine run_ret0 fun Qf hq1 hq2 => ?_
  show Run _ _ _ [(0, (sl u8).slot p_s1), (1, (sl u8).slot p_s2)] _
  refine rs ?_
  refine rt ?_
  refine jp (pa has_bl) rfl rfl rfl ?_
  refine j_end ?_
  refine rs ?_
  refine rs ?_
  refine rt ?_
  refine jp (pm (ht rfl)) rfl rfl rfl ?_
  refine jp (pj_len_sl (sz := 1) (ht rfl) (by kernel_rfl)) rfl rfl rfl ?_
  refine jp (pm (ht rfl)) rfl rfl rfl ?_
  refine jp (pj_len_sl (sz := 1) (ht rfl) (by kernel_rfl)) rfl rfl rfl ?_
  refine jp (pj_ineq (ht rfl) (ht rfl)) rfl rfl rfl ?_
  refine j_end ?_
  refine run_cond (ht rfl) (fun e1 => ?_) (fun e1 => ?_)
  · replace h := bt e1 h
    refine rs ?_
    refine rt ?_
    refine jp (pa has_bl) rfl rfl rfl ?_
    refine j_end ?_
    obtain rfl := oi h
    exact run_ret fun a w hst => q_ret1 hst rfl (.tmp rfl) () (fun _ _ h => h) (.nil)
  · replace h := bf e1 h
    refine run_skip ?_
    refine rs ?_
    refine rs ?_
    refine rt ?_
    refine jp (pm (ht rfl)) rfl rfl rfl ?_
    refine jp (pj_len_sl (sz := 1) (ht rfl) (by kernel_rfl)) rfl rfl rfl ?_
    refine jp (pm has_i64) rfl rfl rfl ?_
    refine j_end ?_
    obtain ⟨o, e6, h⟩ := bind_some h
    refine run_loop (Γi := fun (i : Unit) (s : Int) => [(0, (sl u8).slot p_s1), (1, (sl u8).slot p_s2), (12, i64.slot (p_s1.length : Int)), (13, i64.slot s)]) (Hi := fun (i : Unit) (s : Int) => []) (R := fun x a w => x = r → Qf a w) e6 () (fun a w hst => (hst.sub (.cons (.of_lk rfl) <| .cons (.of_lk rfl) <| .cons (.of_lk rfl) <| .cons (.of_lk rfl) <| .nil)).keep (.nil)) ?_ ?_ ?_
    · clear h e6
      rintro _ y1 lr h
      change slices_Equal_byte_byte_L1 p_s1 p_s2 y1 = some _ at h
      show Run _ _ _ [(0, (sl u8).slot p_s1), (1, (sl u8).slot p_s2), (12, i64.slot (p_s1.length : Int)), (13, i64.slot y1)] []
      unfold slices_Equal_byte_byte_L1 at h
      refine rs ?_
      refine rt ?_
      refine jp (pj_ilss (ht rfl) (ht rfl)) rfl rfl rfl ?_
      refine j_end ?_
      refine rs ?_
      refine run_cond (ht rfl) (fun e2 => ?_) (fun e2 => ?_)
      · replace h := bt e2 h
        refine run_skip ?_
        refine rs ?_
        refine run_block ?_
        refine rs ?_
        refine rt ?_
        refine jp (pm (ht rfl)) rfl rfl rfl ?_
        refine jp (pa (ht rfl)) rfl rfl rfl ?_
        refine j_end ?_
        refine rs ?_
        obtain ⟨x1, e3, h⟩ := bind_some h
        obtain ⟨x2, e4, h⟩ := bind_some h
        refine run_draw (n := 8) (by kernel_rfl) (by kernel_rfl) (by kernel_rfl) (by kernel_rfl) (.read (.plain rfl (pm (ht rfl))) <| .read (.plain rfl (pm (ht rfl))) <| .read (.plain rfl (pj_index_slx (ht rfl) (ht rfl) isInt_i64 e3 (by kernel_rfl))) <| .read (.plain rfl (pl (ht rfl) (by kernel_rfl))) <| .read (.plain rfl (pm (ht rfl))) <| .read (.plain rfl (pm (ht rfl))) <| .read (.plain rfl (pj_index_slx (ht rfl) (ht rfl) isInt_i64 e4 (by kernel_rfl))) <| .read (.plain rfl (pl (ht rfl) (by kernel_rfl))) <| .nil) (j_to (Γ' := [(0, (sl u8).slot p_s1), (1, (sl u8).slot p_s2), (12, i64.slot (p_s1.length : Int)), (13, i64.slot y1), (19, u8.slot x1), (23, u8.slot x2)]) (H' := []) (.cons (.of_lk rfl) <| .cons (.of_lk rfl) <| .cons (.of_lk rfl) <| .cons (.of_lk rfl) <| .cons (.of_lk rfl) <| .cons (.of_lk rfl) <| .nil) (.nil) ?_)
        refine jp (pj_uneq (k := .u8) (b := 8) (ht rfl) (ht rfl)) rfl rfl rfl ?_
        refine j_end ?_
        refine run_cond (ht rfl) (fun e5 => ?_) (fun e5 => ?_)
        · replace h := bt e5 h
          refine rs ?_
          refine rt ?_
          refine jp (pa has_bl) rfl rfl rfl ?_
          refine j_end ?_
          obtain rfl := oi h
          refine run_ret fun a w hst => ⟨rfl, fun hr => ?_⟩
          subst hr
          exact hq2 a w (q_ret1 hst rfl (.tmp rfl) () (fun _ _ h => h) (.nil))
        · replace h := bf e5 h
          refine run_skip ?_
          refine run_endblock ?_
          refine rt ?_
          refine jp (pj_iadd (ht rfl) has_i64) rfl rfl rfl ?_
          refine jp (pm (ht rfl)) rfl rfl rfl ?_
          refine j_end ?_
          obtain rfl := oi h
          exact run_next () (.cons (.of_lk rfl) <| .cons (.of_lk rfl) <| .cons (.of_lk rfl) <| .cons (.of_lk rfl) <| .nil) (.nil)
      · replace h := bf e2 h
        obtain rfl := oi h
        exact run_brk () (.cons (.of_lk rfl) <| .cons (.of_lk rfl) <| .cons (.of_lk rfl) <| .cons (.of_lk rfl) <| .nil) (.nil)
    · rintro _ y2 ho
      subst ho
      show Run _ _ _ [(0, (sl u8).slot p_s1), (1, (sl u8).slot p_s2), (12, i64.slot (p_s1.length : Int)), (13, i64.slot y2)] []
      refine run_to (Γ' := []) (H' := []) (.nil) (.nil) ?_
      refine rs ?_
      refine rt ?_
      refine jp (pa has_bl) rfl rfl rfl ?_
      refine j_end ?_
      obtain rfl := oi h
      exact run_ret fun a w hst => q_ret1 hst rfl (.tmp rfl) () (fun _ _ h => h) (.nil)
    · intro x a w ho hR
      subst ho
      exact hq1 a w (hR (oi h))
set_option maxRecDepth 100000 in
set_option maxHeartbeats 4000000 in
theorem c_lms_Verify {G : GP} (hg0 : HG0 G) (hg1 : HG1 G) (hg2 : HG2 G) {p_public : List (BitVec 8)} {p_message : List (BitVec 8)} {p_sig : List (BitVec 8)} {r : Bool} (h : lms_Verify p_public p_message p_sig = some r) : Ctr Tryz.prog G 99 [(sl u8).slot p_public, (sl u8).slot p_message, (sl u8).slot p_sig] [] (fun (_ : Unit) => bl.slot r) (fun (_ : Unit) => []) := by
  unfold lms_Verify at h
  refine ctr_of_run Tryz.func99 rfl 77 rfl rfl fun m0 w0 b0 => ?_
  show Run _ _ _ [(0, (sl u8).slot p_public), (1, (sl u8).slot p_message), (2, (sl u8).slot p_sig)] _
  refine rs ?_
  refine rt ?_
  refine jp (pa has_bl) rfl rfl rfl ?_
  refine j_end ?_
  refine rs ?_
  refine rs ?_
  refine rt ?_
  refine jp (pm (ht rfl)) rfl rfl rfl ?_
  refine jp (pj_len_sl (sz := 1) (ht rfl) (by kernel_rfl)) rfl rfl rfl ?_
  refine jp (pj_ineq (ht rfl) has_i64) rfl rfl rfl ?_
  refine j_end ?_
  refine run_cond (ht rfl) (fun e1 => ?_) (fun e1 => ?_)
  · replace h := bt e1 h
    refine rs ?_
    refine rt ?_
    refine jp (pa has_bl) rfl rfl rfl ?_
    refine j_end ?_
    obtain rfl := oi h
    exact run_ret fun a w hst => q_ret1 hst rfl (.tmp rfl) () (fun _ _ h => h) (.nil)
  · replace h := bf e1 h
    refine run_skip ?_
    refine rs ?_
    refine rt ?_
    refine jp (pm (ht rfl)) rfl rfl rfl ?_
    obtain ⟨r1, e2, h⟩ := bind_some h
    refine j_call (hc (ht rfl) <| hasL_nil) (by kernel_rfl) (c_wire_New e2) .nil rfl fun b1 => ?_
    refine jp (pa (ht rfl)) rfl rfl rfl ?_
    refine j_end ?_
    refine rs ?_
    refine rt ?_
    refine jp (pm (ht rfl)) rfl rfl rfl ?_
    obtain ⟨r2, e3, h⟩ := bind_some h
    refine j_call (hc (ht rfl) <| hasL_nil) (by kernel_rfl) (c_wire_Reader_U32 e3) (.cons .here <| .nil) rfl fun _ => ?_
    refine jp (pj_conv_ui (by decide) (by kernel_rfl) (ht rfl)) rfl rfl rfl ?_
    refine jp (pm (ht rfl)) rfl rfl rfl ?_
    obtain ⟨r3, e4, h⟩ := bind_some h
    refine j_call (hc (ht rfl) <| hasL_nil) (by kernel_rfl) (c_wire_Reader_U32 e4) (.cons .here <| .nil) rfl fun _ => ?_
    refine jp (pj_conv_ui (by decide) (by kernel_rfl) (ht rfl)) rfl rfl rfl ?_
    refine jp (pa (ht rfl)) rfl rfl rfl ?_
    refine jp (pa (ht rfl)) rfl rfl rfl ?_
    refine j_end ?_
    refine rs ?_
    obtain ⟨r4, e5, h⟩ := bind_some h
    obtain ⟨x1, e6, h⟩ := bind_some h
    obtain ⟨r5, e7, h⟩ := bind_some h
    refine run_keep (H' := [box b1 208 (prod (sl u8) bl) (r3.1.1, r3.1.2)]) (.cons .here <| .nil) ?_
    refine run_drawL (n := 7) (H := []) (Ls := [⟨[box b1 208 (prod (sl u8) bl) (r3.1.1, r3.1.2)], [(1, ⟨Unit, fun (_ : Unit) => [box b1 208 (prod (sl u8) bl) (r4.1.1, r4.1.2)], fun (_ : Unit) => [(29, (sl u8).slot r4.2)]⟩), (5, ⟨Unit, fun (_ : Unit) => [box b1 208 (prod (sl u8) bl) (r5.1.1, r5.1.2)], fun (_ : Unit) => [(33, (sl u8).slot r5.2), (29, (sl u8).slot r4.2)]⟩)]⟩, ⟨[], [(6, ⟨Nat, fun (b2 : Nat) => [box b2 95 R_api_ID (Vector.replicate 16 (0#8))], fun (b2 : Nat) => [(10, val (.pointer (some ⟨b2, 0, none⟩)))]⟩)]⟩]) (by kernel_rfl) (by kernel_rfl) (by kernel_rfl) (by kernel_rfl) (by kernel_rfl) rfl (.read rfl (.plain rfl (pm (ht rfl))) <| .step 0 rfl .here (.inl rfl) (fun i => ⟨_, _, fun _ => (), (w_call (hc (ht rfl) <| hc has_i64 <| hasL_nil) (by kernel_rfl) (c_wire_Reader_Plain e5) (.cons .here <| .nil) rfl), fun _ => rfl, slotIs, dst1⟩) <| .read rfl (.plain rfl (pj_s2apx (e := 5) (ht rfl) e6 rfl (by kernel_rfl))) <| .read rfl (.plain rfl (pl (ht rfl) (by kernel_rfl))) <| .read rfl (.plain rfl (pm (ht rfl))) <| .step 0 rfl (.next .here) (.inl rfl) (fun i => ⟨_, _, fun _ => (), (w_call (hc (ht rfl) <| hc has_i64 <| hasL_nil) (by kernel_rfl) (c_wire_Reader_Plain e7) (.cons .here <| .nil) rfl), fun _ => rfl, slotIs, dst1⟩) <| .step 1 rfl .here (.inl rfl) (fun i => ⟨_, _, fun j => j, (w_alloc (x := (Vector.replicate 16 (0#8))) (R := R_api_ID) (zero_vec 16 zero_un) (by kernel_rfl) rfl), fun _ => rfl, slotAny, dst1⟩) <| .nil) ?_
    rintro _ b2
    refine j_to (Γ' := [(1, (sl u8).slot p_message), (2, (sl u8).slot p_sig), (8, i64.slot (r2.2.toNat : Int)), (9, i64.slot (r3.2.toNat : Int)), (10, val (.pointer (some ⟨b2, 0, none⟩))), (31, R_api_ID.slot x1), (33, (sl u8).slot r5.2)]) (H' := [box b2 95 R_api_ID (Vector.replicate 16 (0#8))]) (.cons (.of_lk rfl) <| .cons (.of_lk rfl) <| .cons (.of_lk rfl) <| .cons (.of_lk rfl) <| .cons (.of_lk rfl) <| .cons (.of_lk rfl) <| .cons (.of_lk rfl) <| .nil) (.cons (.next .here) <| .nil) ?_
    refine j_store_boxx (r' := x1) (ht rfl) (ht rfl) .here (Path.all R_api_ID) (by kernel_rfl) rfl ?_
    refine j_freezeTo (t := 10) .here (.of_lk rfl) ?_
    refine jp (pa (ht rfl)) rfl rfl rfl ?_
    refine j_end ?_
    refine rs ?_
    refine rs ?_
    refine rt ?_
    refine jp (pm (ht rfl)) rfl rfl rfl ?_
    refine jp (pm (ht rfl)) rfl rfl rfl ?_
    obtain ⟨r6, e8, h⟩ := bind_some h
    refine jp (pj_call (hc (ht rfl) <| hc (ht rfl) <| hasL_nil) (by kernel_rfl) (c_lms_may hg0 e8)) rfl rfl rfl ?_
    refine jp (pj_not (ht rfl)) rfl rfl rfl ?_
    refine j_end ?_
    refine run_cond (ht rfl) (fun e9 => ?_) (fun e9 => ?_)
    · replace h := bt e9 h
      refine rs ?_
      refine rt ?_
      refine jp (pa has_bl) rfl rfl rfl ?_
      refine j_end ?_
      obtain rfl := oi h
      exact run_ret fun a w hst => q_ret1 hst rfl (.tmp rfl) () (fun _ _ h => h) (.nil)
    · replace h := bf e9 h
      refine run_skip ?_
      refine rs ?_
      refine rt ?_
      refine jp (pm (ht rfl)) rfl rfl rfl ?_
      refine jp (pm (ht rfl)) rfl rfl rfl ?_
      refine jp (pm (ht rfl)) rfl rfl rfl ?_
      obtain ⟨r7, e10, h⟩ := bind_some h
      refine jp (pj_call (hc (ht rfl) <| hc (ht rfl) <| hc (ht rfl) <| hasL_nil) (by kernel_rfl) (c_lms_parted hg0 e10)) rfl rfl rfl ?_
      refine jp (pm (ht rfl)) rfl rfl rfl ?_
      refine jp (pj_extract (ht rfl) rfl) rfl rfl rfl ?_
      refine jp (pj_extract (ht rfl) rfl) rfl rfl rfl ?_
      refine j_alloc (x := (0, ([] : List (BitVec 8)), ([] : List T_api_Hash))) (R := R_lms_signature) (zero_prod zero_i64 (zero_prod zero_sl zero_sl)) (by kernel_rfl) rfl fun b3 => ?_
      refine j_store_boxx (r' := r7.1) (ht rfl) (ht rfl) .here (Path.all R_lms_signature) (by kernel_rfl) rfl ?_
      refine j_freezeTo (t := 12) .here (.of_lk rfl) ?_
      refine jp (pa (ht rfl)) rfl rfl rfl ?_
      refine j_end ?_
      refine rs ?_
      refine rs ?_
      refine rt ?_
      refine jp (pm (ht rfl)) rfl rfl rfl ?_
      refine jp (pj_not (ht rfl)) rfl rfl rfl ?_
      refine j_end ?_
      refine run_cond (ht rfl) (fun e11 => ?_) (fun e11 => ?_)
      · replace h := bt e11 h
        refine rs ?_
        refine rt ?_
        refine jp (pa has_bl) rfl rfl rfl ?_
        refine j_end ?_
        obtain rfl := oi h
        exact run_ret fun a w hst => q_ret1 hst rfl (.tmp rfl) () (fun _ _ h => h) (.nil)
      · replace h := bf e11 h
        refine run_skip ?_
        refine rs ?_
        refine rt ?_
        refine jp (pl (ht rfl) (by kernel_rfl)) rfl rfl rfl ?_
        refine jp (pj_field_to (ht rfl) (Path.fst i64 (prod (sl u8) (sl R_api_Hash))) (by kernel_rfl)) rfl rfl rfl ?_
        refine jp (pl (ht rfl) (by kernel_rfl)) rfl rfl rfl ?_
        refine jp (pj_conv_un (k := .u32) (b := 32) rfl rfl (by kernel_rfl) (ht rfl) isInt_i64) rfl rfl rfl ?_
        refine jp (pm (ht rfl)) rfl rfl rfl ?_
        refine jp (pj_field_to (ht rfl) (Path.then (Path.snd i64 (prod (sl u8) (sl R_api_Hash))) (Path.fst (sl u8) (sl R_api_Hash))) (by kernel_rfl)) rfl rfl rfl ?_
        refine jp (pl (ht rfl) (by kernel_rfl)) rfl rfl rfl ?_
        obtain ⟨r8, e12, h⟩ := bind_some h
        refine jp (pj_call (hc (ht rfl) <| hc (ht rfl) <| hc (ht rfl) <| hc (ht rfl) <| hasL_nil) (by kernel_rfl) (c_lmots_Recover hg0 hg1 hg2 e12)) rfl rfl rfl ?_
        refine jp (pm (ht rfl)) rfl rfl rfl ?_
        refine jp (pj_extract (ht rfl) rfl) rfl rfl rfl ?_
        refine jp (pj_extract (ht rfl) rfl) rfl rfl rfl ?_
        refine j_alloc (x := (Vector.replicate 32 (0#8))) (R := R_api_Hash) (zero_vec 32 zero_un) (by kernel_rfl) rfl fun b4 => ?_
        refine j_store_boxx (r' := r8.1) (ht rfl) (ht rfl) .here (Path.all R_api_Hash) (by kernel_rfl) rfl ?_
        refine j_freezeTo (t := 14) .here (.of_lk rfl) ?_
        refine jp (pa (ht rfl)) rfl rfl rfl ?_
        refine j_end ?_
        refine rs ?_
        refine rs ?_
        refine rt ?_
        refine jp (pm (ht rfl)) rfl rfl rfl ?_
        refine jp (pj_not (ht rfl)) rfl rfl rfl ?_
        refine j_end ?_
        refine run_cond (ht rfl) (fun e13 => ?_) (fun e13 => ?_)
        · replace h := bt e13 h
          refine rs ?_
          refine rt ?_
          refine jp (pa has_bl) rfl rfl rfl ?_
          refine j_end ?_
          obtain rfl := oi h
          exact run_ret fun a w hst => q_ret1 hst rfl (.tmp rfl) () (fun _ _ h => h) (.nil)
        · replace h := bf e13 h
          refine run_skip ?_
          refine rs ?_
          obtain ⟨e14, h⟩ := grd_some h
          refine run_draw (n := 4) (by kernel_rfl) (by kernel_rfl) (by kernel_rfl) (by kernel_rfl) (.read (.plain rfl (pm (ht rfl))) <| .read (.plain rfl (pj_ishl has_i64 (ht rfl) isInt_i64 e14)) <| .read (.plain rfl (pj_field_to (ht rfl) (Path.fst i64 (prod (sl u8) (sl R_api_Hash))) (by kernel_rfl))) <| .read (.plain rfl (pl (ht rfl) (by kernel_rfl))) <| .nil) (j_to (Γ' := [(10, ptrTo R_api_ID x1), (11, (sl u8).slot r5.2), (12, ptrTo R_lms_signature r7.1), (14, ptrTo R_api_Hash r8.1), (61, i64.slot (ishl (1 : Int) (r2.2.toNat : Int))), (63, i64.slot r7.1.1)]) (H' := []) (.cons (.of_lk rfl) <| .cons (.of_lk rfl) <| .cons (.of_lk rfl) <| .cons (.of_lk rfl) <| .cons (.of_lk rfl) <| .cons (.of_lk rfl) <| .nil) (.nil) ?_)
          refine jp (pj_iadd (ht rfl) (ht rfl)) rfl rfl rfl ?_
          obtain ⟨x2, e15, h⟩ := bind_some h
          refine jp (PJ.eqv (pa (ht rfl)) (oi e15)) rfl rfl rfl ?_
          refine j_end ?_
          refine rs ?_
          obtain ⟨r9, e16, h⟩ := bind_some h
          obtain ⟨r10, e17, h⟩ := bind_some h
          refine run_keep (H' := []) (.nil) ?_
          refine run_drawL (n := 10) (H := []) (Ls := [⟨[], [(9, ⟨Nat, fun (b5 : Nat) => [box b5 23 R_api_Hash (Vector.replicate 32 (0#8))], fun (b5 : Nat) => [(16, val (.pointer (some ⟨b5, 0, none⟩)))]⟩)]⟩]) (by kernel_rfl) (by kernel_rfl) (by kernel_rfl) (by kernel_rfl) (by kernel_rfl) rfl (.read rfl (.plain rfl (pl (ht rfl) (by kernel_rfl))) <| .read rfl (.plain rfl (pm (ht rfl))) <| .read rfl (.plain rfl (pl (ht rfl) (by kernel_rfl))) <| .read rfl (.plain rfl (pm (ht rfl))) <| .read rfl (.plain rfl (pl (ht rfl) (by kernel_rfl))) <| .read rfl (.plain rfl (pj_call (hc (ht rfl) <| hc (ht rfl) <| hc (ht rfl) <| hasL_nil) (by kernel_rfl) (c_lms_leaf hg1 hg2 e16))) <| .read rfl (.plain rfl (pj_field_to (ht rfl) (Path.then (Path.snd i64 (prod (sl u8) (sl R_api_Hash))) (Path.snd (sl u8) (sl R_api_Hash))) (by kernel_rfl))) <| .read rfl (.plain rfl (pl (ht rfl) (by kernel_rfl))) <| .read rfl (.plain rfl (pj_call (hc (ht rfl) <| hc (ht rfl) <| hc (ht rfl) <| hc (ht rfl) <| hasL_nil) (by kernel_rfl) (c_lms_climb hg1 hg2 e17))) <| .step 0 rfl .here (.inl rfl) (fun i => ⟨_, _, fun j => j, (w_alloc (x := (Vector.replicate 32 (0#8))) (R := R_api_Hash) (zero_vec 32 zero_un) (by kernel_rfl) rfl), fun _ => rfl, slotAny, dst1⟩) <| .nil) ?_
          rintro b5
          refine j_to (Γ' := [(11, (sl u8).slot r5.2), (16, val (.pointer (some ⟨b5, 0, none⟩))), (73, R_api_Hash.slot r10)]) (H' := [box b5 23 R_api_Hash (Vector.replicate 32 (0#8))]) (.cons (.of_lk rfl) <| .cons (.of_lk rfl) <| .cons (.of_lk rfl) <| .nil) (.cons .here <| .nil) ?_
          refine j_store_boxx (r' := r10) (ht rfl) (ht rfl) .here (Path.all R_api_Hash) (by kernel_rfl) rfl ?_
          refine j_freezeTo (t := 16) .here (.of_lk rfl) ?_
          refine j_end ?_
          refine rs ?_
          refine rt ?_
          refine jp (pj_slice_toF (ht rfl) (by decide) (by kernel_rfl)) rfl rfl rfl ?_
          refine jp (pm (ht rfl)) rfl rfl rfl ?_
          obtain ⟨r11, e18, h⟩ := bind_some h
          refine jp (pj_call (hc (ht rfl) <| hc (ht rfl) <| hasL_nil) (by kernel_rfl) (c_slices_Equal_byte_byte e18)) rfl rfl rfl ?_
          refine jp (pa (ht rfl)) rfl rfl rfl ?_
          refine j_end ?_
          obtain rfl := oi h
          exact run_ret fun a w hst => q_ret1 hst rfl (.tmp rfl) () (fun _ _ h => h) (.nil)
set_option maxRecDepth 100000 in
set_option maxHeartbeats 4000000 in
theorem c_hss_Verify {G : GP} (hg0 : HG0 G) (hg1 : HG1 G) (hg2 : HG2 G) {p_public : List (BitVec 8)} {p_message : List (BitVec 8)} {p_signature : List (BitVec 8)} {r : Bool} (h : hss_Verify p_public p_message p_signature = some r) : Ctr Tryz.prog G 53 [(sl u8).slot p_public, (sl u8).slot p_message, (sl u8).slot p_signature] [] (fun (_ : Unit) => bl.slot r) (fun (_ : Unit) => []) := by
  unfold hss_Verify at h
  refine ctr_of_run Tryz.func53 rfl 60 rfl rfl fun m0 w0 b0 => ?_
  show Run _ _ _ [(0, (sl u8).slot p_public), (1, (sl u8).slot p_message), (2, (sl u8).slot p_signature)] _
  refine rs ?_
  refine rt ?_
  refine jp (pa has_bl) rfl rfl rfl ?_
  refine j_end ?_
  refine rs ?_
  refine rs ?_
  refine rt ?_
  refine jp (pm (ht rfl)) rfl rfl rfl ?_
  refine jp (pj_len_sl (sz := 1) (ht rfl) (by kernel_rfl)) rfl rfl rfl ?_
  refine jp (pj_ineq (ht rfl) has_i64) rfl rfl rfl ?_
  refine j_end ?_
  refine run_cond (ht rfl) (fun e1 => ?_) (fun e1 => ?_)
  · replace h := bt e1 h
    refine rs ?_
    refine rt ?_
    refine jp (pa has_bl) rfl rfl rfl ?_
    refine j_end ?_
    obtain rfl := oi h
    exact run_ret fun a w hst => q_ret1 hst rfl (.tmp rfl) () (fun _ _ h => h) (.nil)
  · replace h := bf e1 h
    refine run_skip ?_
    refine rs ?_
    refine rt ?_
    refine jp (pm (ht rfl)) rfl rfl rfl ?_
    obtain ⟨r1, e2, h⟩ := bind_some h
    refine j_call (hc (ht rfl) <| hasL_nil) (by kernel_rfl) (c_wire_New e2) .nil rfl fun b1 => ?_
    refine jp (pa (ht rfl)) rfl rfl rfl ?_
    refine j_end ?_
    refine rs ?_
    refine rs ?_
    refine rt ?_
    refine jp (pm (ht rfl)) rfl rfl rfl ?_
    obtain ⟨r2, e3, h⟩ := bind_some h
    refine j_call (hc (ht rfl) <| hasL_nil) (by kernel_rfl) (c_wire_Reader_U32 e3) (.cons .here <| .nil) rfl fun _ => ?_
    refine jp (pj_uneq (k := .u32) (b := 32) (ht rfl) (has_un (x := 2#32) rfl)) rfl rfl rfl ?_
    refine j_end ?_
    refine run_cond (ht rfl) (fun e4 => ?_) (fun e4 => ?_)
    · replace h := bt e4 h
      refine rs ?_
      refine rt ?_
      refine jp (pa has_bl) rfl rfl rfl ?_
      refine j_end ?_
      obtain rfl := oi h
      exact run_ret fun a w hst => q_ret1 hst rfl (.tmp rfl) () (fun _ _ h => h) (.nil)
    · replace h := bf e4 h
      refine run_skip ?_
      refine rs ?_
      refine rt ?_
      refine jp (pm (ht rfl)) rfl rfl rfl ?_
      obtain ⟨r3, e5, h⟩ := bind_some h
      refine j_call (hc (ht rfl) <| hasL_nil) (by kernel_rfl) (c_wire_Reader_U32 e5) (.cons .here <| .nil) rfl fun _ => ?_
      refine jp (pj_conv_ui (by decide) (by kernel_rfl) (ht rfl)) rfl rfl rfl ?_
      refine jp (pm (ht rfl)) rfl rfl rfl ?_
      obtain ⟨r4, e6, h⟩ := bind_some h
      refine j_call (hc (ht rfl) <| hasL_nil) (by kernel_rfl) (c_wire_Reader_U32 e6) (.cons .here <| .nil) rfl fun _ => ?_
      refine jp (pj_conv_ui (by decide) (by kernel_rfl) (ht rfl)) rfl rfl rfl ?_
      refine jp (pa (ht rfl)) rfl rfl rfl ?_
      refine jp (pa (ht rfl)) rfl rfl rfl ?_
      refine j_end ?_
      refine rs ?_
      refine rt ?_
      refine jp (pm (ht rfl)) rfl rfl rfl ?_
      obtain ⟨r5, e7, h⟩ := bind_some h
      refine j_call (hc (ht rfl) <| hasL_nil) (by kernel_rfl) (c_wire_New e7) .nil rfl fun b2 => ?_
      refine jp (pa (ht rfl)) rfl rfl rfl ?_
      refine j_end ?_
      refine rs ?_
      refine rs ?_
      refine rt ?_
      refine jp (pm (ht rfl)) rfl rfl rfl ?_
      obtain ⟨r6, e8, h⟩ := bind_some h
      refine j_call (hc (ht rfl) <| hasL_nil) (by kernel_rfl) (c_wire_Reader_U32 e8) (.cons .here <| .nil) rfl fun _ => ?_
      refine jp (pj_uneq (k := .u32) (b := 32) (ht rfl) (has_un (x := 1#32) rfl)) rfl rfl rfl ?_
      refine j_end ?_
      refine run_cond (ht rfl) (fun e9 => ?_) (fun e9 => ?_)
      · replace h := bt e9 h
        refine rs ?_
        refine rt ?_
        refine jp (pa has_bl) rfl rfl rfl ?_
        refine j_end ?_
        obtain rfl := oi h
        exact run_ret fun a w hst => q_ret1 hst rfl (.tmp rfl) () (fun _ _ h => h) (.nil)
      · replace h := bf e9 h
        refine run_skip ?_
        refine rs ?_
        refine rt ?_
        refine jp (pm (ht rfl)) rfl rfl rfl ?_
        refine jp (pm (ht rfl)) rfl rfl rfl ?_
        refine jp (pm (ht rfl)) rfl rfl rfl ?_
        obtain ⟨r7, e10, h⟩ := bind_some h
        refine jp (pj_call (hc (ht rfl) <| hc (ht rfl) <| hasL_nil) (by kernel_rfl) (c_lms_Size hg0 e10)) rfl rfl rfl ?_
        obtain ⟨r8, e11, h⟩ := bind_some h
        refine j_call (hc (ht rfl) <| hc (ht rfl) <| hasL_nil) (by kernel_rfl) (c_wire_Reader_Plain e11) (.cons .here <| .nil) rfl fun _ => ?_
        refine jp (pa (ht rfl)) rfl rfl rfl ?_
        refine j_end ?_
        refine rs ?_
        refine rt ?_
        refine jp (pm (ht rfl)) rfl rfl rfl ?_
        obtain ⟨r9, e12, h⟩ := bind_some h
        refine j_call (hc (ht rfl) <| hc has_i64 <| hasL_nil) (by kernel_rfl) (c_wire_Reader_Plain e12) (.cons .here <| .nil) rfl fun _ => ?_
        refine jp (pa (ht rfl)) rfl rfl rfl ?_
        refine j_end ?_
        refine rs ?_
        refine rt ?_
        refine jp (pm (ht rfl)) rfl rfl rfl ?_
        refine jp (pm (ht rfl)) rfl rfl rfl ?_
        obtain ⟨r10, e13, h⟩ := bind_some h
        refine jp (pj_callR (hc (ht rfl) <| hasL_nil) .here (by kernel_rfl) (fun _ => (c_wire_Reader_Left e13))) rfl rfl rfl ?_
        obtain ⟨r11, e14, h⟩ := bind_some h
        refine j_call (hc (ht rfl) <| hc (ht rfl) <| hasL_nil) (by kernel_rfl) (c_wire_Reader_Plain e14) (.cons .here <| .nil) rfl fun _ => ?_
        refine jp (pa (ht rfl)) rfl rfl rfl ?_
        refine j_end ?_
        refine rs ?_
        refine rt ?_
        refine jp (pm (ht rfl)) rfl rfl rfl ?_
        obtain ⟨r12, e15, h⟩ := bind_some h
        refine jp (pj_callR (hc (ht rfl) <| hasL_nil) .here (by kernel_rfl) (fun _ => (c_wire_Reader_Fails e15))) rfl rfl rfl ?_
        refine jp (pj_not (ht rfl)) rfl rfl rfl ?_
        refine jp (pm (ht rfl)) rfl rfl rfl ?_
        obtain ⟨y1, e17, h⟩ := bind_some h
        refine j_joinx (ι := Unit) (Γ' := fun _ => [(1, (sl u8).slot p_message), (12, (sl u8).slot r9.2), (13, (sl u8).slot r11.2), (53, bl.slot y1)]) (H' := fun _ => []) 6 ?_ fun J => ?_
        · intro _
          clear e17
          show OpsJ _ _ _ [(1, (sl u8).slot p_message), (12, (sl u8).slot r9.2), (13, (sl u8).slot r11.2), (53, bl.slot y1)] [] _
          refine jp (pm (ht rfl)) rfl rfl rfl ?_
          obtain ⟨y2, e21, h⟩ := bind_some h
          refine j_joinx (ι := Unit) (Γ' := fun _ => [(59, bl.slot y2)]) (H' := fun _ => []) 5 ?_ fun J => ?_
          · intro _
            clear e21
            show OpsJ _ _ _ [(59, bl.slot y2)] [] _
            refine jp (pa (ht rfl)) rfl rfl rfl ?_
            refine j_end ?_
            obtain rfl := oi h
            exact run_ret fun a w hst => q_ret1 hst rfl (.tmp rfl) () (fun _ _ h => h) (.nil)
          · rcases bool_tf (y1) with e20 | e20
            · replace e21 := bt e20 e21
              refine jy (pm (ht rfl)) rfl rfl rfl rfl (bl_isx e20) rfl rfl ?_
              refine jy (pm (ht rfl)) rfl rfl rfl rfl (bl_isx e20) rfl rfl ?_
              refine jy (pm (ht rfl)) rfl rfl rfl rfl (bl_isx e20) rfl rfl ?_
              obtain ⟨r14, e22, e21⟩ := bind_some e21
              refine jy (pj_call (hc (ht rfl) <| hc (ht rfl) <| hc (ht rfl) <| hasL_nil) (by kernel_rfl) (c_lms_Verify hg0 hg1 hg2 e22)) rfl rfl rfl rfl (bl_isx e20) rfl rfl ?_
              refine jp (PJ.eqv (R := bl) (pj_pick (t := any) (ht rfl) (fun _ => (ht rfl)) (fun he => absurd (e20.symm.trans he) (by decide))) (oi e21)) rfl rfl rfl ?_
              exact j_to (.cons (.of_lk rfl) <| .nil) (.nil) (J ())
            · replace e21 := bf e20 e21
              refine j_guard_no2 (j := 10) (want := true) rfl rfl rfl rfl (bl_isx e20) rfl rfl rfl ?_
              refine j_guard_no2 (j := 10) (want := true) rfl rfl rfl rfl (bl_isx e20) rfl rfl rfl ?_
              refine j_guard_no2 (j := 10) (want := true) rfl rfl rfl rfl (bl_isx e20) rfl rfl rfl ?_
              refine j_guard_no2 (j := 10) (want := true) rfl rfl rfl rfl (bl_isx e20) rfl rfl rfl ?_
              refine jp (PJ.eqv (R := bl) (pj_pick (t := any) (ht rfl) (fun he => absurd (e20.symm.trans he) (by decide)) (fun _ => has_bl)) (oi e21)) rfl rfl rfl ?_
              exact j_to (.cons (.of_lk rfl) <| .nil) (.nil) (J ())
        · rcases bool_tf (!r12) with e16 | e16
          · replace e17 := bt e16 e17
            refine jy (pm (ht rfl)) rfl rfl rfl rfl (bl_isx e16) rfl rfl ?_
            obtain ⟨x1, e18, e17⟩ := bind_some e17
            refine jy (pj_slice_slx (ht rfl) (.yes has_i64 isInt_i64) .no e18 (by kernel_rfl)) rfl rfl rfl rfl (bl_isx e16) rfl rfl ?_
            refine jy (pm (ht rfl)) rfl rfl rfl rfl (bl_isx e16) rfl rfl ?_
            refine jy (pm (ht rfl)) rfl rfl rfl rfl (bl_isx e16) rfl rfl ?_
            obtain ⟨r13, e19, e17⟩ := bind_some e17
            refine jy (pj_call (hc (ht rfl) <| hc (ht rfl) <| hc (ht rfl) <| hasL_nil) (by kernel_rfl) (c_lms_Verify hg0 hg1 hg2 e19)) rfl rfl rfl rfl (bl_isx e16) rfl rfl ?_
            refine jp (PJ.eqv (R := bl) (pj_pick (t := any) (ht rfl) (fun _ => (ht rfl)) (fun he => absurd (e16.symm.trans he) (by decide))) (oi e17)) rfl rfl rfl ?_
            exact j_to (.cons (.of_lk rfl) <| .cons (.of_lk rfl) <| .cons (.of_lk rfl) <| .cons (.of_lk rfl) <| .nil) (.nil) (J ())
          · replace e17 := bf e16 e17
            refine j_guard_no2 (j := 3) (want := true) rfl rfl rfl rfl (bl_isx e16) rfl rfl rfl ?_
            refine j_guard_no2 (j := 3) (want := true) rfl rfl rfl rfl (bl_isx e16) rfl rfl rfl ?_
            refine j_guard_no2 (j := 3) (want := true) rfl rfl rfl rfl (bl_isx e16) rfl rfl rfl ?_
            refine j_guard_no2 (j := 3) (want := true) rfl rfl rfl rfl (bl_isx e16) rfl rfl rfl ?_
            refine j_guard_no2 (j := 3) (want := true) rfl rfl rfl rfl (bl_isx e16) rfl rfl rfl ?_
            refine jp (PJ.eqv (R := bl) (pj_pick (t := any) (ht rfl) (fun he => absurd (e16.symm.trans he) (by decide)) (fun _ => has_bl)) (oi e17)) rfl rfl rfl ?_
            exact j_to (.cons (.of_lk rfl) <| .cons (.of_lk rfl) <| .cons (.of_lk rfl) <| .cons (.of_lk rfl) <| .nil) (.nil) (J ())
set_option maxRecDepth 100000 in
set_option maxHeartbeats 4000000 in
theorem c_head_Right {G : GP} (hg0 : HG0 G) (hg1 : HG1 G) (hg2 : HG2 G) {p_s : T_head_Signed} {p_public : List (BitVec 8)} {r : Bool} (h : head_Right p_s p_public = some r) : Ctr Tryz.prog G 14 [R_head_Signed.slot p_s, (sl u8).slot p_public] [] (fun (_ : Unit) => bl.slot r) (fun (_ : Unit) => []) := by
  unfold head_Right at h
  refine ctr_of_run Tryz.func14 rfl 22 rfl rfl fun m0 w0 b0 => ?_
  show Run _ _ _ [(0, R_head_Signed.slot p_s), (1, (sl u8).slot p_public)] _
  refine rs ?_
  refine rt ?_
  refine jp (pj_box_to (ht rfl)) rfl rfl rfl ?_
  refine jp (pa has_bl) rfl rfl rfl ?_
  refine j_end ?_
  refine rs ?_
  refine rt ?_
  refine jp (pj_field_to (ht rfl) (Path.fst R_head_Head (sl u8)) (by kernel_rfl)) rfl rfl rfl ?_
  refine jp (pl (ht rfl) (by kernel_rfl)) rfl rfl rfl ?_
  obtain ⟨r1, e1, h⟩ := bind_some h
  refine jp (pj_call (hc (ht rfl) <| hasL_nil) (by kernel_rfl) (Ctr.froze2 (c_head_Encode e1))) rfl rfl rfl ?_
  refine jp (pm (ht rfl)) rfl rfl rfl ?_
  refine jp (pj_extract (ht rfl) rfl) rfl rfl rfl ?_
  refine jp (pj_extract (ht rfl) rfl) rfl rfl rfl ?_
  refine jp (pa (ht rfl)) rfl rfl rfl ?_
  refine jp (pa (ht rfl)) rfl rfl rfl ?_
  refine j_end ?_
  refine rs ?_
  refine rt ?_
  refine jp (pm (ht rfl)) rfl rfl rfl ?_
  refine jp (pj_ieql (ht rfl) has_i64) rfl rfl rfl ?_
  refine jp (pm (ht rfl)) rfl rfl rfl ?_
  obtain ⟨y1, e3, h⟩ := bind_some h
  refine j_joinx (ι := Unit) (Γ' := fun _ => [(21, bl.slot y1)]) (H' := fun _ => []) 6 ?_ fun J => ?_
  · intro _
    clear e3
    show OpsJ _ _ _ [(21, bl.slot y1)] [] _
    refine jp (pa (ht rfl)) rfl rfl rfl ?_
    refine j_end ?_
    obtain rfl := oi h
    exact run_ret fun a w hst => q_ret1 hst rfl (.tmp rfl) () (fun _ _ h => h) (.nil)
  · rcases bool_tf (decide (r1.2 = (0 : Int))) with e2 | e2
    · replace e3 := bt e2 e3
      refine jy (pm (ht rfl)) rfl rfl rfl rfl (bl_isx e2) rfl rfl ?_
      refine jy (pm (ht rfl)) rfl rfl rfl rfl (bl_isx e2) rfl rfl ?_
      refine jy (pj_field_to (ht rfl) (Path.snd R_head_Head (sl u8)) (by kernel_rfl)) rfl rfl rfl rfl (bl_isx e2) rfl rfl ?_
      refine jy (pl (ht rfl) (by kernel_rfl)) rfl rfl rfl rfl (bl_isx e2) rfl rfl ?_
      obtain ⟨r2, e4, e3⟩ := bind_some e3
      refine jy (pj_call (hc (ht rfl) <| hc (ht rfl) <| hc (ht rfl) <| hasL_nil) (by kernel_rfl) (c_hss_Verify hg0 hg1 hg2 e4)) rfl rfl rfl rfl (bl_isx e2) rfl rfl ?_
      refine jp (PJ.eqv (R := bl) (pj_pick (t := any) (ht rfl) (fun _ => (ht rfl)) (fun he => absurd (e2.symm.trans he) (by decide))) (oi e3)) rfl rfl rfl ?_
      exact j_to (.cons (.of_lk rfl) <| .nil) (.nil) (J ())
    · replace e3 := bf e2 e3
      refine j_guard_no2 (j := 2) (want := true) rfl rfl rfl rfl (bl_isx e2) rfl rfl rfl ?_
      refine j_guard_no2 (j := 2) (want := true) rfl rfl rfl rfl (bl_isx e2) rfl rfl rfl ?_
      refine j_guard_no2 (j := 2) (want := true) rfl rfl rfl rfl (bl_isx e2) rfl rfl rfl ?_
      refine j_guard_no2 (j := 2) (want := true) rfl rfl rfl rfl (bl_isx e2) rfl rfl rfl ?_
      refine j_guard_no2 (j := 2) (want := true) rfl rfl rfl rfl (bl_isx e2) rfl rfl rfl ?_
      refine jp (PJ.eqv (R := bl) (pj_pick (t := any) (ht rfl) (fun he => absurd (e2.symm.trans he) (by decide)) (fun _ => has_bl)) (oi e3)) rfl rfl rfl ?_
      exact j_to (.cons (.of_lk rfl) <| .nil) (.nil) (J ())
set_option maxRecDepth 100000 in
set_option maxHeartbeats 4000000 in
theorem c_gossip_Pool_place_1 {G : GP} {p_s : T_head_Signed} {p_e : Int} {r : Int} (h : gossip_Pool_place_1 p_s p_e = some r) : Ctr Tryz.prog G 103 [R_head_Signed.slot p_s, i64.slot p_e] [] (fun (_ : Unit) => i64.slot r) (fun (_ : Unit) => []) := by
  unfold gossip_Pool_place_1 at h
  refine ctr_of_run Tryz.func103 rfl 10 rfl rfl fun m0 w0 b0 => ?_
  show Run _ _ _ [(0, R_head_Signed.slot p_s), (1, i64.slot p_e)] _
  refine rs ?_
  refine rt ?_
  refine jp (pj_box_to (ht rfl)) rfl rfl rfl ?_
  refine jp (pa has_i64) rfl rfl rfl ?_
  refine j_end ?_
  refine rs ?_
  refine rt ?_
  refine jp (pj_field_to (ht rfl) (Path.fst R_head_Head (sl u8)) (by kernel_rfl)) rfl rfl rfl ?_
  refine jp (pj_field_to (ht rfl) (Path.fst i64 (prod i64 (prod R_api_Hash R_api_Hash))) (by kernel_rfl)) rfl rfl rfl ?_
  refine jp (pl (ht rfl) (by kernel_rfl)) rfl rfl rfl ?_
  refine jp (pm (ht rfl)) rfl rfl rfl ?_
  refine jp (pj_isub (ht rfl) (ht rfl)) rfl rfl rfl ?_
  refine jp (pa (ht rfl)) rfl rfl rfl ?_
  refine j_end ?_
  obtain rfl := oi h
  exact run_ret fun a w hst => q_ret1 hst rfl (.tmp rfl) () (fun _ _ h => h) (.nil)
set_option maxRecDepth 100000 in
set_option maxHeartbeats 4000000 in
theorem c_slices_BinarySearchFunc_head_Signed_head_Signed_int_gossip_Pool_place_1 {G : GP} {p_x : List T_head_Signed} {p_target : Int} {r : Int × Bool} (h : slices_BinarySearchFunc_head_Signed_head_Signed_int_gossip_Pool_place_1 p_x p_target = some r) : Ctr Tryz.prog G 102 [(sl R_head_Signed).slot p_x, i64.slot p_target, fnS 103 []] [] (fun (_ : Unit) => tup [i64.slot r.1, bl.slot r.2]) (fun (_ : Unit) => []) := by
  unfold slices_BinarySearchFunc_head_Signed_head_Signed_int_gossip_Pool_place_1 at h
  refine ctr_of_run Tryz.func102 rfl 49 rfl rfl fun m0 w0 b0 => ?_
  show Run _ _ _ [(0, (sl R_head_Signed).slot p_x), (1, i64.slot p_target), (2, fnS 103 [])] _
  refine rs ?_
  refine rt ?_
  refine jp (pa has_i64) rfl rfl rfl ?_
  refine jp (pa has_bl) rfl rfl rfl ?_
  refine j_end ?_
  refine rs ?_
  refine rt ?_
  refine jp (pm (ht rfl)) rfl rfl rfl ?_
  refine jp (pj_len_sl (sz := 67) (ht rfl) (by kernel_rfl)) rfl rfl rfl ?_
  refine jp (pa (ht rfl)) rfl rfl rfl ?_
  refine j_end ?_
  refine rs ?_
  refine rt ?_
  refine jp (pm (ht rfl)) rfl rfl rfl ?_
  refine jp (pa has_i64) rfl rfl rfl ?_
  refine jp (pa (ht rfl)) rfl rfl rfl ?_
  refine j_end ?_
  refine rs ?_
  obtain ⟨⟨y3, y4⟩, e6, h⟩ := bind_some h
  refine run_loopS (Γi := fun (i : Unit) (s : Int × Int) => [(0, (sl R_head_Signed).slot p_x), (1, i64.slot p_target), (2, fnS 103 []), (8, i64.slot (p_x.length : Int)), (9, i64.slot s.1), (10, i64.slot s.2)]) (Hi := fun (i : Unit) (s : Int × Int) => []) e6 () (fun a w hst => (hst.sub (.cons (.of_lk rfl) <| .cons (.of_lk rfl) <| .cons (.of_lk rfl) <| .cons (.of_lk rfl) <| .cons (.of_lk rfl) <| .cons (.of_lk rfl) <| .nil)).keep (.nil)) ?_ ?_
  · clear h e6
    rintro _ ⟨y1, y2⟩ lr h
    change slices_BinarySearchFunc_head_Signed_head_Signed_int_gossip_Pool_place_1_L1 p_x p_target y1 y2 = some _ at h
    show Run _ _ _ [(0, (sl R_head_Signed).slot p_x), (1, i64.slot p_target), (2, fnS 103 []), (8, i64.slot (p_x.length : Int)), (9, i64.slot y1), (10, i64.slot y2)] []
    unfold slices_BinarySearchFunc_head_Signed_head_Signed_int_gossip_Pool_place_1_L1 at h
    refine rs ?_
    refine rs ?_
    refine rt ?_
    refine jp (pm (ht rfl)) rfl rfl rfl ?_
    refine jp (pm (ht rfl)) rfl rfl rfl ?_
    refine jp (pj_ilss (ht rfl) (ht rfl)) rfl rfl rfl ?_
    refine j_end ?_
    refine run_cond (ht rfl) (fun e1 => ?_) (fun e1 => ?_)
    · replace h := bt e1 h
      refine run_skip ?_
      refine run_block ?_
      refine rs ?_
      refine rt ?_
      refine jp (pm (ht rfl)) rfl rfl rfl ?_
      refine jp (pm (ht rfl)) rfl rfl rfl ?_
      refine jp (pj_iadd (ht rfl) (ht rfl)) rfl rfl rfl ?_
      refine jp (pj_conv_un (k := .u64) (b := 64) rfl rfl (by kernel_rfl) (ht rfl) isInt_i64) rfl rfl rfl ?_
      refine jp (pj_ushr (k := .u64) (b := 64) rfl (ht rfl) (has_un (x := 1#64) rfl) isInt_un (Int.natCast_nonneg _)) rfl rfl rfl ?_
      refine jp (pj_conv_i64 (by kernel_rfl) (ht rfl) isInt_un) rfl rfl rfl ?_
      obtain ⟨x1, e2, h⟩ := bind_some h
      refine jp (PJ.eqv (pa (ht rfl)) (oi e2)) rfl rfl rfl ?_
      refine j_end ?_
      refine rs ?_
      refine rt ?_
      refine jp (pm (ht rfl)) rfl rfl rfl ?_
      refine jp (pm (ht rfl)) rfl rfl rfl ?_
      refine jp (pm (ht rfl)) rfl rfl rfl ?_
      obtain ⟨x2, e3, h⟩ := bind_some h
      refine jp (pj_index_slx (ht rfl) (ht rfl) isInt_i64 e3 (by kernel_rfl)) rfl rfl rfl ?_
      refine jp (pl (ht rfl) (by kernel_rfl)) rfl rfl rfl ?_
      refine jp (pm (ht rfl)) rfl rfl rfl ?_
      obtain ⟨r1, e4, h⟩ := bind_some h
      refine jp (pj_callV (ht rfl) (hc (ht rfl) <| hc (ht rfl) <| hasL_nil) (by kernel_rfl) (c_gossip_Pool_place_1 e4)) rfl rfl rfl ?_
      refine jp (pj_ilss (ht rfl) has_i64) rfl rfl rfl ?_
      refine j_end ?_
      refine run_cond (ht rfl) (fun e5 => ?_) (fun e5 => ?_)
      · replace h := bt e5 h
        refine rt ?_
        refine jp (pm (ht rfl)) rfl rfl rfl ?_
        refine jp (pj_iadd (ht rfl) has_i64) rfl rfl rfl ?_
        refine jp (pa (ht rfl)) rfl rfl rfl ?_
        refine j_end ?_
        refine run_endblock ?_
        obtain rfl := oi h
        exact run_next () (.cons (.of_lk rfl) <| .cons (.of_lk rfl) <| .cons (.of_lk rfl) <| .cons (.of_lk rfl) <| .cons (.of_lk rfl) <| .cons (.of_lk rfl) <| .nil) (.nil)
      · replace h := bf e5 h
        refine rt ?_
        refine jp (pm (ht rfl)) rfl rfl rfl ?_
        refine jp (pa (ht rfl)) rfl rfl rfl ?_
        refine j_end ?_
        refine run_endblock ?_
        obtain rfl := oi h
        exact run_next () (.cons (.of_lk rfl) <| .cons (.of_lk rfl) <| .cons (.of_lk rfl) <| .cons (.of_lk rfl) <| .cons (.of_lk rfl) <| .cons (.of_lk rfl) <| .nil) (.nil)
    · replace h := bf e1 h
      obtain rfl := oi h
      exact run_brk () (.cons (.of_lk rfl) <| .cons (.of_lk rfl) <| .cons (.of_lk rfl) <| .cons (.of_lk rfl) <| .cons (.of_lk rfl) <| .cons (.of_lk rfl) <| .nil) (.nil)
  · rintro _
    show Run _ _ _ [(0, (sl R_head_Signed).slot p_x), (1, i64.slot p_target), (2, fnS 103 []), (8, i64.slot (p_x.length : Int)), (9, i64.slot y3), (10, i64.slot y4)] []
    refine run_to (Γ' := [(0, (sl R_head_Signed).slot p_x), (1, i64.slot p_target), (2, fnS 103 []), (8, i64.slot (p_x.length : Int)), (9, i64.slot y3)]) (H' := []) (.cons (.of_lk rfl) <| .cons (.of_lk rfl) <| .cons (.of_lk rfl) <| .cons (.of_lk rfl) <| .cons (.of_lk rfl) <| .nil) (.nil) ?_
    refine rs ?_
    refine rt ?_
    refine jp (pm (ht rfl)) rfl rfl rfl ?_
    refine jp (pm (ht rfl)) rfl rfl rfl ?_
    refine jp (pm (ht rfl)) rfl rfl rfl ?_
    refine jp (pj_ilss (ht rfl) (ht rfl)) rfl rfl rfl ?_
    refine jp (pm (ht rfl)) rfl rfl rfl ?_
    obtain ⟨y5, e8, h⟩ := bind_some h
    refine j_joinx (ι := Unit) (Γ' := fun _ => [(35, i64.slot y3), (48, bl.slot y5)]) (H' := fun _ => []) 9 ?_ fun J => ?_
    · intro _
      clear e8
      show OpsJ _ _ _ [(35, i64.slot y3), (48, bl.slot y5)] [] _
      refine jp (pa (ht rfl)) rfl rfl rfl ?_
      refine jp (pa (ht rfl)) rfl rfl rfl ?_
      refine j_end ?_
      obtain rfl := oi h
      exact run_ret fun a w hst => q_retN hst rfl (.cons (.tmp rfl) <| .cons (.tmp rfl) <| .nil) rfl () (fun _ _ h => h) (.nil)
    · rcases bool_tf (decide (y3 < (p_x.length : Int))) with e7 | e7
      · replace e8 := bt e7 e8
        refine jy (pm (ht rfl)) rfl rfl rfl rfl (bl_isx e7) rfl rfl ?_
        refine jy (pm (ht rfl)) rfl rfl rfl rfl (bl_isx e7) rfl rfl ?_
        refine jy (pm (ht rfl)) rfl rfl rfl rfl (bl_isx e7) rfl rfl ?_
        obtain ⟨x3, e9, e8⟩ := bind_some e8
        refine jy (pj_index_slx (ht rfl) (ht rfl) isInt_i64 e9 (by kernel_rfl)) rfl rfl rfl rfl (bl_isx e7) rfl rfl ?_
        refine jy (pl (ht rfl) (by kernel_rfl)) rfl rfl rfl rfl (bl_isx e7) rfl rfl ?_
        refine jy (pm (ht rfl)) rfl rfl rfl rfl (bl_isx e7) rfl rfl ?_
        obtain ⟨r2, e10, e8⟩ := bind_some e8
        refine jy (pj_callV (ht rfl) (hc (ht rfl) <| hc (ht rfl) <| hasL_nil) (by kernel_rfl) (c_gossip_Pool_place_1 e10)) rfl rfl rfl rfl (bl_isx e7) rfl rfl ?_
        refine jy (pj_ieql (ht rfl) has_i64) rfl rfl rfl rfl (bl_isx e7) rfl rfl ?_
        refine jp (PJ.eqv (R := bl) (pj_pick (t := any) (ht rfl) (fun _ => (ht rfl)) (fun he => absurd (e7.symm.trans he) (by decide))) (oi e8)) rfl rfl rfl ?_
        exact j_to (.cons (.of_lk rfl) <| .cons (.of_lk rfl) <| .nil) (.nil) (J ())
      · replace e8 := bf e7 e8
        refine j_guard_no2 (j := 4) (want := true) rfl rfl rfl rfl (bl_isx e7) rfl rfl rfl ?_
        refine j_guard_no2 (j := 4) (want := true) rfl rfl rfl rfl (bl_isx e7) rfl rfl rfl ?_
        refine j_guard_no2 (j := 4) (want := true) rfl rfl rfl rfl (bl_isx e7) rfl rfl rfl ?_
        refine j_guard_no2 (j := 4) (want := true) rfl rfl rfl rfl (bl_isx e7) rfl rfl rfl ?_
        refine j_guard_no2 (j := 4) (want := true) rfl rfl rfl rfl (bl_isx e7) rfl rfl rfl ?_
        refine j_guard_no2 (j := 4) (want := true) rfl rfl rfl rfl (bl_isx e7) rfl rfl rfl ?_
        refine j_guard_no2 (j := 4) (want := true) rfl rfl rfl rfl (bl_isx e7) rfl rfl rfl ?_
        refine j_guard_no2 (j := 4) (want := true) rfl rfl rfl rfl (bl_isx e7) rfl rfl rfl ?_
        refine jp (PJ.eqv (R := bl) (pj_pick (t := any) (ht rfl) (fun he => absurd (e7.symm.trans he) (by decide)) (fun _ => has_bl)) (oi e8)) rfl rfl rfl ?_
        exact j_to (.cons (.of_lk rfl) <| .cons (.of_lk rfl) <| .nil) (.nil) (J ())
set_option maxRecDepth 100000 in
set_option maxHeartbeats 4000000 in
theorem c_gossip_Pool_place {G : GP} {p_p : Option T_gossip_Pool} {p_e : Int} {r : Int × Bool} (h : gossip_Pool_place p_p p_e = some r) : Ctr Tryz.prog G 58 [(ptr R_gossip_Pool).slot p_p, i64.slot p_e] [] (fun (_ : Unit) => tup [i64.slot r.1, bl.slot r.2]) (fun (_ : Unit) => []) := by
  unfold gossip_Pool_place at h
  refine ctr_of_run Tryz.func58 rfl 14 rfl rfl fun m0 w0 b0 => ?_
  show Run _ _ _ [(0, (ptr R_gossip_Pool).slot p_p), (1, i64.slot p_e)] _
  refine rs ?_
  refine rt ?_
  refine jp (pa has_i64) rfl rfl rfl ?_
  refine jp (pa has_bl) rfl rfl rfl ?_
  refine j_end ?_
  refine rs ?_
  refine rt ?_
  refine jp (pm (ht rfl)) rfl rfl rfl ?_
  obtain ⟨x1, e1, h⟩ := bind_some h
  refine jp (pj_nilCheck_some (ht rfl) e1) rfl rfl rfl ?_
  refine jp (pj_field_to (ht rfl) (Path.then (Path.snd (sl u8) (prod (sl R_head_Signed) (prod (sl R_gossip_Fork) (sl R_gossip_link)))) (Path.fst (sl R_head_Signed) (prod (sl R_gossip_Fork) (sl R_gossip_link)))) (by kernel_rfl)) rfl rfl rfl ?_
  refine jp (pl (ht rfl) (by kernel_rfl)) rfl rfl rfl ?_
  refine jp (pm (ht rfl)) rfl rfl rfl ?_
  obtain ⟨r1, e2, h⟩ := bind_some h
  refine jp (pj_call (hc (ht rfl) <| hc (ht rfl) <| hc has_fn0 <| hasL_nil) (by kernel_rfl) (c_slices_BinarySearchFunc_head_Signed_head_Signed_int_gossip_Pool_place_1 e2)) rfl rfl rfl ?_
  refine jp (pj_extract (ht rfl) rfl) rfl rfl rfl ?_
  refine jp (pj_extract (ht rfl) rfl) rfl rfl rfl ?_
  refine jp (pa (ht rfl)) rfl rfl rfl ?_
  refine jp (pa (ht rfl)) rfl rfl rfl ?_
  refine j_end ?_
  obtain rfl := oi h
  exact run_ret fun a w hst => q_retN hst rfl (.cons (.tmp rfl) <| .cons (.tmp rfl) <| .nil) rfl () (fun _ _ h => h) (.nil)
set_option maxRecDepth 100000 in
set_option maxHeartbeats 4000000 in
theorem c_gossip_Pool_forked_1 {G : GP} {p_f : T_gossip_Fork} {q_0 : Int} {r : Bool} (h : gossip_Pool_forked_1 p_f q_0 = some r) : Ctr Tryz.prog G 105 [R_gossip_Fork.slot p_f, ptrTo i64 q_0] [] (fun (_ : Unit) => bl.slot r) (fun (_ : Unit) => []) := by
  unfold gossip_Pool_forked_1 at h
  refine ctr_of_run Tryz.func105 rfl 10 rfl rfl fun m0 w0 b0 => ?_
  show Run _ _ _ [(0, R_gossip_Fork.slot p_f), (1, ptrTo i64 q_0)] _
  refine rs ?_
  refine rt ?_
  refine jp (pj_box_to (ht rfl)) rfl rfl rfl ?_
  refine jp (pa has_bl) rfl rfl rfl ?_
  refine j_end ?_
  refine rs ?_
  refine rt ?_
  refine jp (pj_field_to (ht rfl) (Path.fst R_head_Signed R_head_Signed) (by kernel_rfl)) rfl rfl rfl ?_
  refine jp (pj_field_to (ht rfl) (Path.fst R_head_Head (sl u8)) (by kernel_rfl)) rfl rfl rfl ?_
  refine jp (pj_field_to (ht rfl) (Path.fst i64 (prod i64 (prod R_api_Hash R_api_Hash))) (by kernel_rfl)) rfl rfl rfl ?_
  refine jp (pl (ht rfl) (by kernel_rfl)) rfl rfl rfl ?_
  refine jp (pl (ht rfl) (by kernel_rfl)) rfl rfl rfl ?_
  refine jp (pj_ieql (ht rfl) (ht rfl)) rfl rfl rfl ?_
  refine jp (pa (ht rfl)) rfl rfl rfl ?_
  refine j_end ?_
  obtain rfl := oi h
  exact run_ret fun a w hst => q_ret1 hst rfl (.tmp rfl) () (fun _ _ h => h) (.nil)
set_option maxRecDepth 100000 in
set_option maxHeartbeats 4000000 in
theorem c_slices_IndexFunc_gossip_Fork_gossip_Fork_gossip_Pool_forked_1 {G : GP} {p_s : List T_gossip_Fork} {k1_0 : Int} {r : Int} (h : slices_IndexFunc_gossip_Fork_gossip_Fork_gossip_Pool_forked_1 p_s k1_0 = some r) : Ctr Tryz.prog G 147 [(sl R_gossip_Fork).slot p_s, fnS 105 [ptrTo i64 k1_0]] [] (fun (_ : Unit) => i64.slot r) (fun (_ : Unit) => []) := by
  unfold slices_IndexFunc_gossip_Fork_gossip_Fork_gossip_Pool_forked_1 at h
  refine ctr_of_run Tryz.func147 rfl 19 rfl rfl fun m0 w0 b0 => ?_
  refine run_ret0 fun Qf hq1 hq2 => ?_
  show Run _ _ _ [(0, (sl R_gossip_Fork).slot p_s), (1, fnS 105 [ptrTo i64 k1_0])] _
  refine rs ?_
  refine rt ?_
  refine jp (pa has_i64) rfl rfl rfl ?_
  refine j_end ?_
  refine rs ?_
  refine rs ?_
  refine rt ?_
  refine jp (pm (ht rfl)) rfl rfl rfl ?_
  refine jp (pj_len_sl (sz := 134) (ht rfl) (by kernel_rfl)) rfl rfl rfl ?_
  refine jp (pm has_i64) rfl rfl rfl ?_
  refine j_end ?_
  obtain ⟨o, e5, h⟩ := bind_some h
  refine run_loop (Γi := fun (i : Unit) (s : Int) => [(0, (sl R_gossip_Fork).slot p_s), (1, fnS 105 [ptrTo i64 k1_0]), (7, i64.slot (p_s.length : Int)), (8, i64.slot s)]) (Hi := fun (i : Unit) (s : Int) => []) (R := fun x a w => x = r → Qf a w) e5 () (fun a w hst => (hst.sub (.cons (.of_lk rfl) <| .cons (.of_lk rfl) <| .cons (.of_lk rfl) <| .cons (.of_lk rfl) <| .nil)).keep (.nil)) ?_ ?_ ?_
  · clear h e5
    rintro _ y1 lr h
    change slices_IndexFunc_gossip_Fork_gossip_Fork_gossip_Pool_forked_1_L1 p_s k1_0 y1 = some _ at h
    show Run _ _ _ [(0, (sl R_gossip_Fork).slot p_s), (1, fnS 105 [ptrTo i64 k1_0]), (7, i64.slot (p_s.length : Int)), (8, i64.slot y1)] []
    unfold slices_IndexFunc_gossip_Fork_gossip_Fork_gossip_Pool_forked_1_L1 at h
    refine rs ?_
    refine rt ?_
    refine jp (pj_ilss (ht rfl) (ht rfl)) rfl rfl rfl ?_
    refine j_end ?_
    refine rs ?_
    refine run_cond (ht rfl) (fun e1 => ?_) (fun e1 => ?_)
    · replace h := bt e1 h
      refine run_skip ?_
      refine rs ?_
      refine run_block ?_
      refine rs ?_
      refine rt ?_
      refine jp (pm (ht rfl)) rfl rfl rfl ?_
      refine jp (pa (ht rfl)) rfl rfl rfl ?_
      refine j_end ?_
      refine rs ?_
      refine rt ?_
      refine jp (pm (ht rfl)) rfl rfl rfl ?_
      refine jp (pm (ht rfl)) rfl rfl rfl ?_
      refine jp (pm (ht rfl)) rfl rfl rfl ?_
      obtain ⟨x1, e2, h⟩ := bind_some h
      refine jp (pj_index_slx (ht rfl) (ht rfl) isInt_i64 e2 (by kernel_rfl)) rfl rfl rfl ?_
      refine jp (pl (ht rfl) (by kernel_rfl)) rfl rfl rfl ?_
      obtain ⟨r1, e3, h⟩ := bind_some h
      refine jp (pj_callV (ht rfl) (hc (ht rfl) <| hasL_nil) (by kernel_rfl) (c_gossip_Pool_forked_1 e3)) rfl rfl rfl ?_
      refine j_end ?_
      refine run_cond (ht rfl) (fun e4 => ?_) (fun e4 => ?_)
      · replace h := bt e4 h
        refine rs ?_
        refine rt ?_
        refine jp (pm (ht rfl)) rfl rfl rfl ?_
        refine jp (pa (ht rfl)) rfl rfl rfl ?_
        refine j_end ?_
        obtain rfl := oi h
        refine run_ret fun a w hst => ⟨rfl, fun hr => ?_⟩
        subst hr
        exact hq2 a w (q_ret1 hst rfl (.tmp rfl) () (fun _ _ h => h) (.nil))
      · replace h := bf e4 h
        refine run_skip ?_
        refine run_endblock ?_
        refine rt ?_
        refine jp (pj_iadd (ht rfl) has_i64) rfl rfl rfl ?_
        refine jp (pm (ht rfl)) rfl rfl rfl ?_
        refine j_end ?_
        obtain rfl := oi h
        exact run_next () (.cons (.of_lk rfl) <| .cons (.of_lk rfl) <| .cons (.of_lk rfl) <| .cons (.of_lk rfl) <| .nil) (.nil)
    · replace h := bf e1 h
      obtain rfl := oi h
      exact run_brk () (.cons (.of_lk rfl) <| .cons (.of_lk rfl) <| .cons (.of_lk rfl) <| .cons (.of_lk rfl) <| .nil) (.nil)
  · rintro _ y2 ho
    subst ho
    show Run _ _ _ [(0, (sl R_gossip_Fork).slot p_s), (1, fnS 105 [ptrTo i64 k1_0]), (7, i64.slot (p_s.length : Int)), (8, i64.slot y2)] []
    refine run_to (Γ' := []) (H' := []) (.nil) (.nil) ?_
    refine rs ?_
    refine rt ?_
    refine jp (pa has_i64) rfl rfl rfl ?_
    refine j_end ?_
    obtain rfl := oi h
    exact run_ret fun a w hst => q_ret1 hst rfl (.tmp rfl) () (fun _ _ h => h) (.nil)
  · intro x a w ho hR
    subst ho
    exact hq1 a w (hR (oi h))
set_option maxRecDepth 100000 in
set_option maxHeartbeats 4000000 in
theorem c_slices_ContainsFunc_gossip_Fork_gossip_Fork_gossip_Pool_forked_1 {G : GP} {p_s : List T_gossip_Fork} {k1_0 : Int} {r : Bool} (h : slices_ContainsFunc_gossip_Fork_gossip_Fork_gossip_Pool_forked_1 p_s k1_0 = some r) : Ctr Tryz.prog G 104 [(sl R_gossip_Fork).slot p_s, fnS 105 [ptrTo i64 k1_0]] [] (fun (_ : Unit) => bl.slot r) (fun (_ : Unit) => []) := by
  unfold slices_ContainsFunc_gossip_Fork_gossip_Fork_gossip_Pool_forked_1 at h
  refine ctr_of_run Tryz.func104 rfl 9 rfl rfl fun m0 w0 b0 => ?_
  show Run _ _ _ [(0, (sl R_gossip_Fork).slot p_s), (1, fnS 105 [ptrTo i64 k1_0])] _
  refine rs ?_
  refine rt ?_
  refine jp (pa has_bl) rfl rfl rfl ?_
  refine j_end ?_
  refine rs ?_
  refine rt ?_
  refine jp (pm (ht rfl)) rfl rfl rfl ?_
  refine jp (pm (ht rfl)) rfl rfl rfl ?_
  obtain ⟨r1, e1, h⟩ := bind_some h
  refine jp (pj_call (hc (ht rfl) <| hc (ht rfl) <| hasL_nil) (by kernel_rfl) (c_slices_IndexFunc_gossip_Fork_gossip_Fork_gossip_Pool_forked_1 e1)) rfl rfl rfl ?_
  refine jp (pj_igeq (ht rfl) has_i64) rfl rfl rfl ?_
  refine jp (pa (ht rfl)) rfl rfl rfl ?_
  refine j_end ?_
  obtain rfl := oi h
  exact run_ret fun a w hst => q_ret1 hst rfl (.tmp rfl) () (fun _ _ h => h) (.nil)
set_option maxRecDepth 100000 in
set_option maxHeartbeats 4000000 in
theorem c_gossip_Pool_forked {G : GP} {p_p : Option T_gossip_Pool} {p_e : Int} {r : Bool} (h : gossip_Pool_forked p_p p_e = some r) : Ctr Tryz.prog G 59 [(ptr R_gossip_Pool).slot p_p, i64.slot p_e] [] (fun (_ : Unit) => bl.slot r) (fun (_ : Unit) => []) := by
  unfold gossip_Pool_forked at h
  refine ctr_of_run Tryz.func59 rfl 11 rfl rfl fun m0 w0 b0 => ?_
  show Run _ _ _ [(0, (ptr R_gossip_Pool).slot p_p), (1, i64.slot p_e)] _
  refine rs ?_
  refine rt ?_
  refine jp (pj_box_to (ht rfl)) rfl rfl rfl ?_
  refine jp (pa has_bl) rfl rfl rfl ?_
  refine j_end ?_
  refine rs ?_
  refine rt ?_
  refine jp (pm (ht rfl)) rfl rfl rfl ?_
  obtain ⟨x1, e1, h⟩ := bind_some h
  refine jp (pj_nilCheck_some (ht rfl) e1) rfl rfl rfl ?_
  refine jp (pj_field_to (ht rfl) (Path.then (Path.snd (sl u8) (prod (sl R_head_Signed) (prod (sl R_gossip_Fork) (sl R_gossip_link)))) (Path.then (Path.snd (sl R_head_Signed) (prod (sl R_gossip_Fork) (sl R_gossip_link))) (Path.fst (sl R_gossip_Fork) (sl R_gossip_link)))) (by kernel_rfl)) rfl rfl rfl ?_
  refine jp (pl (ht rfl) (by kernel_rfl)) rfl rfl rfl ?_
  refine jp (pj_makeFunc (hc (ht rfl) <| hasL_nil)) rfl rfl rfl ?_
  obtain ⟨r1, e2, h⟩ := bind_some h
  refine jp (pj_call (hc (ht rfl) <| hc (ht rfl) <| hasL_nil) (by kernel_rfl) (c_slices_ContainsFunc_gossip_Fork_gossip_Fork_gossip_Pool_forked_1 e2)) rfl rfl rfl ?_
  refine jp (pa (ht rfl)) rfl rfl rfl ?_
  refine j_end ?_
  obtain rfl := oi h
  exact run_ret fun a w hst => q_ret1 hst rfl (.tmp rfl) () (fun _ _ h => h) (.nil)
set_option maxRecDepth 100000 in
set_option maxHeartbeats 4000000 in
theorem c_gossip_copied {G : GP} {p_s : T_head_Signed} {r : T_head_Signed} (h : gossip_copied p_s = some r) : Ctr Tryz.prog G 60 [R_head_Signed.slot p_s] [] (fun (_ : Unit) => R_head_Signed.slot r) (fun (_ : Unit) => []) := by
  unfold gossip_copied at h
  refine ctr_of_run Tryz.func60 rfl 8 rfl rfl fun m0 w0 b0 => ?_
  show Run _ _ _ [(0, R_head_Signed.slot p_s)] _
  refine rs ?_
  refine rt ?_
  refine j_box (ht rfl) rfl fun b1 => ?_
  refine j_alloc (x := ((0, 0, (Vector.replicate 32 (0#8)), (Vector.replicate 32 (0#8))), ([] : List (BitVec 8)))) (R := R_head_Signed) (zero_prod (zero_prod zero_i64 (zero_prod zero_i64 (zero_prod (zero_vec 32 zero_un) (zero_vec 32 zero_un)))) zero_sl) (by kernel_rfl) rfl fun b2 => ?_
  refine j_end ?_
  refine rs ?_
  refine rt ?_
  refine jp (pj_field_ptr (off := 66) (ht rfl) (by kernel_rfl)) rfl rfl rfl ?_
  refine jp (pj_load_box (ht rfl) (.next .here) (Path.then (Path.all R_head_Signed) (Path.snd R_head_Head (sl u8))) (by kernel_rfl)) rfl rfl rfl ?_
  obtain ⟨r1, e1, h⟩ := bind_some h
  refine jp (pj_call (hc (ht rfl) <| hasL_nil) (by kernel_rfl) (Ctr.froze (c_slices_Clone_byte_byte e1))) rfl rfl rfl ?_
  refine jp (pj_field_ptr (off := 66) (ht rfl) (by kernel_rfl)) rfl rfl rfl ?_
  refine j_store_boxx (r' := (p_s.1, r1)) (ht rfl) (ht rfl) (.next .here) (Path.then (Path.all R_head_Signed) (Path.snd R_head_Head (sl u8))) (by kernel_rfl) rfl ?_
  refine j_end ?_
  refine rs ?_
  refine rt ?_
  refine jp (pj_load_box (ht rfl) .here (Path.all R_head_Signed) (by kernel_rfl)) rfl rfl rfl ?_
  refine j_store_boxx (r' := (p_s.1, r1)) (ht rfl) (ht rfl) (.next .here) (Path.all R_head_Signed) (by kernel_rfl) rfl ?_
  refine j_end ?_
  obtain rfl := oi h
  exact run_ret fun a w hst => q_ret1 hst rfl (.cell rfl .here (by kernel_rfl)) () (fun _ _ h => h) (.nil)
set_option maxRecDepth 100000 in
set_option maxHeartbeats 4000000 in
theorem c_slices_Insert_head_Signed_head_Signed {G : GP} {p_s : List T_head_Signed} {p_i : Int} {p_v : List T_head_Signed} {v_s v_v : Value} {r : List T_head_Signed} (h : slices_Insert_head_Signed_head_Signed p_s p_i p_v = some r) :
    Ctr Tryz.prog G 61 [ov v_s, i64.slot p_i, ov v_v] [own 33 R_head_Signed v_s p_s, own 33 R_head_Signed v_v p_v] (fun (u0 : Value) => ov u0) (fun (u0 : Value) => [own 33 R_head_Signed u0 r]) := by
  obtain ⟨i, y, rfl, hi, rfl, hn, hr⟩ := ins_some h
  clear h
  have w1 : w64 ((p_s.length : Int) + 1) = ((p_s.length + 1 : Nat) : Int) := w64_eq (by omega)
  have w2 : w64 ((i : Int) + 1) = ((i + 1 : Nat) : Int) := w64_eq (by omega)
  have w3 : w64 (((p_s.length + 1 : Nat) : Int) - (i : Int)) = ((p_s.length + 1 - i : Nat) : Int) := by rw [w64_eq (by omega)]; omega
  refine ctr_of_run Tryz.func61 rfl 95 rfl rfl fun m0 w0 b0 => ?_
  show Run _ _ _ [(0, ov v_s), (1, i64.slot (i : Int)), (2, ov v_v)] _
  refine rs ?_
  refine rt ?_
  refine j_assign_nil (T := 33) R_head_Signed rfl fun v1 => ?_
  refine j_end ?_
  refine rs ?_
  refine rt ?_
  refine jp (pm (ht rfl)) rfl rfl rfl ?_
  refine jp (pm (ht rfl)) rfl rfl rfl ?_
  refine jp (pj_slice_own_any (sz := 67) (ht rfl) (.next .here) (ht rfl) isInt_i64 (by omega) (by omega) (by kernel_rfl)) rfl rfl rfl ?_
  refine j_end ?_
  refine rs ?_
  refine rt ?_
  refine jp (pm (ht rfl)) rfl rfl rfl ?_
  refine jp (PJ.eqv (y := (1 : Int)) (pj_len_own (sz := 67) (ht rfl) (.next (.next .here)) (by kernel_rfl)) rfl) rfl rfl rfl ?_
  refine jp (pa (ht rfl)) rfl rfl rfl ?_
  refine j_end ?_
  refine rs ?_
  refine rs ?_
  refine rt ?_
  refine jp (pm (ht rfl)) rfl rfl rfl ?_
  refine jp (pj_ieql (ht rfl) has_i64) rfl rfl rfl ?_
  refine j_end ?_
  refine run_cond_f (ht rfl) rfl ?_
  refine run_skip ?_
  refine rs ?_
  refine rt ?_
  refine jp (pm (ht rfl)) rfl rfl rfl ?_
  refine jp (pj_len_own (sz := 67) (ht rfl) (.next .here) (by kernel_rfl)) rfl rfl rfl ?_
  refine jp (pa (ht rfl)) rfl rfl rfl ?_
  refine j_end ?_
  refine rs ?_
  refine rs ?_
  refine rt ?_
  refine jp (pm (ht rfl)) rfl rfl rfl ?_
  refine jp (pm (ht rfl)) rfl rfl rfl ?_
  refine jp (pj_ieql (ht rfl) (ht rfl)) rfl rfl rfl ?_
  refine j_end ?_
  refine run_cond (ht rfl) (fun e5 => ?_) (fun e5 => ?_)
  · have e6 : i = p_s.length := by have := of_decide_eq_true e5; omega
    subst e6
    have e7 : r = p_s ++ [y] := by rw [hr]; simp
    subst e7
    refine rs ?_
    refine rt ?_
    refine jp (pm (ht rfl)) rfl rfl rfl ?_
    refine jp (pm (ht rfl)) rfl rfl rfl ?_
    refine j_append (T := 33) (E := 33) (ht rfl) (.next .here) (src_own (ht rfl) (.next (.next .here))) (by kernel_rfl) (by kernel_rfl) (by simp; omega) rfl fun v2 => ?_
    refine jp (pa (ht rfl)) rfl rfl rfl ?_
    refine j_end ?_
    exact run_ret fun a w hst => q_ret1 hst rfl (.tmp rfl) v2 (fun _ _ h => h) (.cons .here <| .nil)
  · have e6 : i < p_s.length := by have := of_decide_eq_false e5; omega
    have hne : p_s ≠ [] := by intro h; rw [h] at e6; simp at e6
    refine run_skip ?_
    refine rs ?_
    refine rs ?_
    refine rt ?_
    refine j_openOwn (.next .here) hne fun b n1 hv1 => ?_
    subst hv1
    refine j_openOwn (.next (.next .here)) (by simp) fun b2 n2 hv2 => ?_
    subst hv2
    refine jp (pm (ht rfl)) rfl rfl rfl ?_
    refine jp (pm (ht rfl)) rfl rfl rfl ?_
    refine jp (PJ.eqv (pj_iadd (ht rfl) (ht rfl)) w1) rfl rfl rfl ?_
    refine jp (pm (ht rfl)) rfl rfl rfl ?_
    refine jp (pj_cap_val (sz := 67) (has_ov_val (ht rfl)) (by kernel_rfl)) rfl rfl rfl ?_
    refine jp (pj_igtr (ht rfl) (ht rfl)) rfl rfl rfl ?_
    refine j_end ?_
    refine run_cond (ht rfl) (fun e8 => ?_) (fun e8 => ?_)
    · have e9 : p_s.length + n1 < p_s.length + 1 := by have := of_decide_eq_true e8; omega
      refine rs ?_
      refine rt ?_
      refine jp (pm (ht rfl)) rfl rfl rfl ?_
      refine jp (pm (ht rfl)) rfl rfl rfl ?_
      refine jp (pj_slice_val0 (sz := 67) (has_ov_val (ht rfl)) .no (.yes (ht rfl) isInt_i64) 0 i rfl rfl (by omega) (by omega) (by omega) (by kernel_rfl)) rfl rfl rfl ?_
      refine jp (pm (ht rfl)) rfl rfl rfl ?_
      refine jp (pm (ht rfl)) rfl rfl rfl ?_
      refine jp (PJ.eqv (pj_iadd (ht rfl) (ht rfl)) w1) rfl rfl rfl ?_
      refine jp (pm (ht rfl)) rfl rfl rfl ?_
      refine jp (PJ.eqv (pj_isub (ht rfl) (ht rfl)) w3) rfl rfl rfl ?_
      refine j_appendZ (kn := .i64) (T := 33) (b := b) (i := i) (cap := p_s.length + n1) (k := p_s.length + 1 - i) (R := R_head_Signed) (ht rfl) (.next .here) (ht rfl) (by simp; omega) (by omega) (by omega) (by omega) (by kernel_rfl) (by kernel_rfl) (by kernel_rfl) rfl fun b3 e => ?_
      refine jp (pa (ht rfl)) rfl rfl rfl ?_
      refine j_end ?_
      refine rs ?_
      refine rt ?_
      refine jp (pm (ht rfl)) rfl rfl rfl ?_
      refine jp (pm (ht rfl)) rfl rfl rfl ?_
      refine jp (pj_slice_val0 (sz := 67) (ht rfl) (.yes (ht rfl) isInt_i64) .no i (i + (p_s.length + 1 - i)) rfl rfl (by omega) (by omega) (by omega) (by kernel_rfl)) rfl rfl rfl ?_
      refine jp (pm (ht rfl)) rfl rfl rfl ?_
      refine j_copyK (T := 33) (lo := i) (R := R_head_Signed) (N := 1) (xs := [y]) (ht rfl) .here (srcK_arr (b := b2) (T := 33) (zs := [y].map some ++ List.replicate n2 none) (lo := 0) (cap := 1 + n2) (has_ov_val (ht rfl)) (.next (.next .here)) rfl) (by simp; omega) (by simp; omega) (by kernel_rfl) rfl ?_
      refine j_end ?_
      refine rs ?_
      refine run_draw (n := 8) (by kernel_rfl) (by kernel_rfl) (by kernel_rfl) (by kernel_rfl) (.read (.plain rfl (pm (ht rfl))) <| .read (.plain rfl (pm (ht rfl))) <| .read (.plain rfl (pm (ht rfl))) <| .read (.plain rfl (PJ.eqv (pj_iadd (ht rfl) (ht rfl)) w2)) <| .read (.plain rfl (pj_slice_val0 (sz := 67) (ht rfl) (.yes (ht rfl) isInt_i64) .no (i + 1) (i + (p_s.length + 1 - i)) rfl rfl (by omega) (by omega) (by omega) (by kernel_rfl))) <| .read (.plain rfl (pm (ht rfl))) <| .read (.plain rfl (pm (ht rfl))) <| .read (.plain rfl (pj_slice_val0 (sz := 67) (has_ov_val (ht rfl)) (.yes (ht rfl) isInt_i64) .no i p_s.length rfl rfl (by omega) (by omega) (by omega) (by kernel_rfl))) <| .nil) ?_
      refine j_copyK (T := 33) (lo := i + 1) (R := R_head_Signed) (N := p_s.length - i) (xs := p_s.drop i) (ht rfl) .here (srcK_arr (b := b) (lo := i) (cap := p_s.length + n1 - i) (ht rfl) (.next .here) (by rw [List.drop_append_of_le_length (by simp; omega)]; simp)) (by simp; omega) (by simp; omega) (by kernel_rfl) rfl ?_
      refine j_end ?_
      refine rs ?_
      refine rt ?_
      refine jp (pm (ht rfl)) rfl rfl rfl ?_
      refine jp (pa (ht rfl)) rfl rfl rfl ?_
      refine j_end ?_
      refine run_closeOwn2 r e (i + (p_s.length + 1 - i)) (i + (p_s.length + 1 - i) + e) .here (by rw [hr]; exact ins_grow p_s y i e n1 hi) (by rw [hr]; simp; omega) (by rw [hr]; simp; omega) ?_
      exact run_ret fun a w hst => q_ret1 hst rfl (.tmp rfl) (.slice (some ⟨b3, 0, none⟩) (i + (p_s.length + 1 - i)) (i + (p_s.length + 1 - i) + e)) (fun _ _ h => ov_p.2 ⟨h, rfl⟩) (.cons .here <| .nil)
    · have e9 : ¬ p_s.length + n1 < p_s.length + 1 := by have := of_decide_eq_false e8; omega
      refine run_skip ?_
      refine rs ?_
      refine rt ?_
      refine jp (pm (ht rfl)) rfl rfl rfl ?_
      refine jp (pm (ht rfl)) rfl rfl rfl ?_
      refine jp (pm (ht rfl)) rfl rfl rfl ?_
      refine jp (PJ.eqv (pj_iadd (ht rfl) (ht rfl)) w1) rfl rfl rfl ?_
      refine jp (pj_slice_val0 (sz := 67) (has_ov_val (ht rfl)) .no (.yes (ht rfl) isInt_i64) 0 (p_s.length + 1) rfl rfl (by omega) (by omega) (by omega) (by kernel_rfl)) rfl rfl rfl ?_
      refine jp (pa (ht rfl)) rfl rfl rfl ?_
      refine j_end ?_
      refine rs ?_
      refine rs ?_
      refine rt ?_
      refine jp (pm (ht rfl)) rfl rfl rfl ?_
      refine jp (pm (ht rfl)) rfl rfl rfl ?_
      refine jp (pm (ht rfl)) rfl rfl rfl ?_
      refine jp (pm (ht rfl)) rfl rfl rfl ?_
      refine jp (PJ.eqv (pj_iadd (ht rfl) (ht rfl)) w2) rfl rfl rfl ?_
      refine jp (pj_slice_val0 (sz := 67) (n := p_s.length + 1) (cap := p_s.length + n1) (ht rfl) (.yes (ht rfl) isInt_i64) .no (i + 1) (p_s.length + 1) rfl rfl (by omega) (by omega) (by omega) (by kernel_rfl)) rfl rfl rfl ?_
      refine jp (pj_overlaps (fn := Tryz.f106) (tS := 90) (tR := 4) (sz := 67) (T1 := 33) (T2 := 33) (R1 := R_head_Signed) (R2 := R_head_Signed) (z2 := p_s.map some ++ List.replicate n1 none) Tryz.func106 (by kernel_rfl) (by kernel_rfl) (by kernel_rfl) (by kernel_rfl) (by kernel_rfl) (has_ov_val (ht rfl)) (ht rfl) .here .here (Nat.mul_pos (by simp; omega) (by decide))) rfl rfl rfl ?_
      refine jp (pj_not (ht rfl)) rfl rfl rfl ?_
      refine j_end ?_
      refine run_cond_t (ht rfl) rfl ?_
      refine rs ?_
      refine run_draw (n := 8) (by kernel_rfl) (by kernel_rfl) (by kernel_rfl) (by kernel_rfl) (.read (.plain rfl (pm (ht rfl))) <| .read (.plain rfl (pm (ht rfl))) <| .read (.plain rfl (pm (ht rfl))) <| .read (.plain rfl (PJ.eqv (pj_iadd (ht rfl) (ht rfl)) w2)) <| .read (.plain rfl (pj_slice_val0 (sz := 67) (n := p_s.length + 1) (cap := p_s.length + n1) (ht rfl) (.yes (ht rfl) isInt_i64) .no (i + 1) (p_s.length + 1) rfl rfl (by omega) (by omega) (by omega) (by kernel_rfl))) <| .read (.plain rfl (pm (ht rfl))) <| .read (.plain rfl (pm (ht rfl))) <| .read (.plain rfl (pj_slice_val0 (sz := 67) (n := p_s.length + 1) (cap := p_s.length + n1) (ht rfl) (.yes (ht rfl) isInt_i64) .no i (p_s.length + 1) rfl rfl (by omega) (by omega) (by omega) (by kernel_rfl))) <| .nil) ?_
      refine j_copyK (T := 33) (lo := i + 1) (R := R_head_Signed) (N := p_s.length + 1 - i) (xs := p_s.drop i) (ht rfl) (.next .here) (srcK_arr (b := b) (lo := i) (cap := p_s.length + n1 - i) (ht rfl) (.next .here) (by rw [List.drop_append_of_le_length (by simp; omega)]; simp)) (by simp; omega) (by simp; omega) (by kernel_rfl) rfl ?_
      refine j_end ?_
      refine rs ?_
      refine rt ?_
      refine jp (pm (ht rfl)) rfl rfl rfl ?_
      refine jp (pm (ht rfl)) rfl rfl rfl ?_
      refine jp (pj_slice_val0 (sz := 67) (n := p_s.length + 1) (cap := p_s.length + n1) (ht rfl) (.yes (ht rfl) isInt_i64) .no i (p_s.length + 1) rfl rfl (by omega) (by omega) (by omega) (by kernel_rfl)) rfl rfl rfl ?_
      refine jp (pm (ht rfl)) rfl rfl rfl ?_
      refine j_copyK (T := 33) (lo := i) (R := R_head_Signed) (N := 1) (xs := [y]) (ht rfl) .here (srcK_arr (b := b2) (T := 33) (zs := [y].map some ++ List.replicate n2 none) (lo := 0) (cap := 1 + n2) (has_ov_val (ht rfl)) (.next .here) rfl) (by simp; omega) (by simp; omega) (by kernel_rfl) rfl ?_
      refine j_end ?_
      refine rs ?_
      refine rt ?_
      refine jp (pm (ht rfl)) rfl rfl rfl ?_
      refine jp (pa (ht rfl)) rfl rfl rfl ?_
      refine j_end ?_
      refine run_closeOwn2 r (n1 - 1) (p_s.length + 1) (p_s.length + n1) .here (by rw [hr]; exact ins_shift p_s y i n1 e6 (by omega)) (by rw [hr]; simp; omega) (by rw [hr]; simp; omega) ?_
      exact run_ret fun a w hst => q_ret1 hst rfl (.tmp rfl) (.slice (some ⟨b, 0, none⟩) (p_s.length + 1) (p_s.length + n1)) (fun _ _ h => ov_p.2 ⟨h, rfl⟩) (.cons .here <| .nil)
set_option maxRecDepth 100000 in
set_option maxHeartbeats 4000000 in
theorem c_gossip_Pool_Put {G : GP} (hg0 : HG0 G) (hg1 : HG1 G) (hg2 : HG2 G) {p_p : (List (BitVec 8)) × (List T_head_Signed) × (List T_gossip_Fork) × (List T_gossip_link)} {p_s : T_head_Signed} {b_p : Nat} {v_p1 : Value} {v_p2 : Value} {v_p3 : Value} {r : ((List (BitVec 8)) × (List T_head_Signed) × (List T_gossip_Fork) × (List T_gossip_link)) × Int} (h : gossip_Pool_Put p_p p_s = some r) : Ctr Tryz.prog G 21 [val (.pointer (some ⟨b_p, 0, none⟩)), R_head_Signed.slot p_s] [box b_p 116 (prod (sl u8) (prod (exv v_p1) (prod (exv v_p2) (exv v_p3)))) (p_p.1, (), (), ()), own 33 R_head_Signed v_p1 p_p.2.1, own 123 R_gossip_Fork v_p2 p_p.2.2.1, own 130 R_gossip_link v_p3 p_p.2.2.2] (fun (i : Value × Value × Value) => i64.slot r.2) (fun (i : Value × Value × Value) => [box b_p 116 (prod (sl u8) (prod (exv i.1) (prod (exv i.2.1) (exv i.2.2)))) (r.1.1, (), (), ()), own 33 R_head_Signed i.1 r.1.2.1, own 123 R_gossip_Fork i.2.1 r.1.2.2.1, own 130 R_gossip_link i.2.2 r.1.2.2.2]) := by
  unfold gossip_Pool_Put at h
  refine ctr_of_run Tryz.func21 rfl 88 rfl rfl fun m0 w0 b0 => ?_
  show Run _ _ _ [(0, val (.pointer (some ⟨b_p, 0, none⟩))), (1, R_head_Signed.slot p_s)] _
  refine rs ?_
  refine rt ?_
  refine jp (pj_box_to (ht rfl)) rfl rfl rfl ?_
  refine jp (pa has_i64) rfl rfl rfl ?_
  refine j_end ?_
  refine rs ?_
  refine run_block ?_
  refine rs ?_
  refine rt ?_
  refine jp (pm (ht rfl)) rfl rfl rfl ?_
  refine jp (pj_eq_nil_val (E := 116) (by kernel_rfl) (ht rfl)) rfl rfl rfl ?_
  refine jp (pa (ht rfl)) rfl rfl rfl ?_
  refine j_end ?_
  refine run_cond_f (ht rfl) rfl ?_
  refine rs ?_
  refine run_draw (n := 5) (by kernel_rfl) (by kernel_rfl) (by kernel_rfl) (by kernel_rfl) (.read (.plain rfl (pl (ht rfl) (by kernel_rfl))) <| .read (.plain rfl (pm (ht rfl))) <| .read (.plain rfl (pj_nilCheck_ptr (ht rfl))) <| .read (.plain rfl (pj_field_ptr (off := 0) (ht rfl) (by kernel_rfl))) <| .read (.plain rfl (pj_load_box (ht rfl) .here (Path.then (Path.all (prod (sl u8) (prod (exv v_p1) (prod (exv v_p2) (exv v_p3))))) (Path.fst (sl u8) (prod (exv v_p1) (prod (exv v_p2) (exv v_p3))))) (by kernel_rfl))) <| .nil) (j_to (Γ' := [(0, val (.pointer (some ⟨b_p, 0, none⟩))), (3, ptrTo R_head_Signed p_s), (11, R_head_Signed.slot p_s), (15, (sl u8).slot p_p.1)]) (H' := [box b_p 116 (prod (sl u8) (prod (exv v_p1) (prod (exv v_p2) (exv v_p3)))) (p_p.1, (), (), ()), own 33 R_head_Signed v_p1 p_p.2.1, own 123 R_gossip_Fork v_p2 p_p.2.2.1, own 130 R_gossip_link v_p3 p_p.2.2.2]) (.cons (.of_lk rfl) <| .cons (.of_lk rfl) <| .cons (.of_lk rfl) <| .cons (.of_lk rfl) <| .nil) (.cons .here <| .cons .here <| .cons .here <| .cons .here <| .nil) ?_)
  obtain ⟨r1, e2, h⟩ := bind_some h
  refine jp (pj_call (hc (ht rfl) <| hc (ht rfl) <| hasL_nil) (by kernel_rfl) (c_head_Right hg0 hg1 hg2 e2)) rfl rfl rfl ?_
  refine jp (pj_not (ht rfl)) rfl rfl rfl ?_
  refine jp (pa (ht rfl)) rfl rfl rfl ?_
  refine j_end ?_
  refine run_cond (ht rfl) (fun e3 => ?_) (fun e3 => ?_)
  · replace h := bt e3 h
    refine rs ?_
    refine rt ?_
    refine jp (pa has_i64) rfl rfl rfl ?_
    refine j_end ?_
    obtain rfl := oi h
    exact run_ret fun a w hst => q_ret1 hst rfl (.tmp rfl) (v_p1, v_p2, v_p3) (fun _ _ h => h) (.cons .here <| .cons .here <| .cons .here <| .cons .here <| .nil)
  · replace h := bf e3 h
    refine run_skip ?_
    refine run_endblock ?_
    refine rs ?_
    refine rt ?_
    refine jp (pm (ht rfl)) rfl rfl rfl ?_
    refine jp (pj_field_to (ht rfl) (Path.fst R_head_Head (sl u8)) (by kernel_rfl)) rfl rfl rfl ?_
    refine jp (pj_field_to (ht rfl) (Path.fst i64 (prod i64 (prod R_api_Hash R_api_Hash))) (by kernel_rfl)) rfl rfl rfl ?_
    refine jp (pl (ht rfl) (by kernel_rfl)) rfl rfl rfl ?_
    obtain ⟨r2, e4, h⟩ := bind_some h
    refine jp (pj_callB (hasBL_cons (hasB_obj (ht rfl) .here (ocv_step (.next .here) (cv_snd (sl u8) p_p.1 (cv_fst (prod (exv v_p2) (exv v_p3)) ((), ()) cv_at)) <| ocv_step (.next (.next .here)) (cv_snd (sl u8) p_p.1 (cv_snd (sl R_head_Signed) p_p.2.1 (cv_fst (exv v_p3) () cv_at))) <| ocv_step (.next (.next (.next .here))) (cv_snd (sl u8) p_p.1 (cv_snd (sl R_head_Signed) p_p.2.1 (cv_snd (sl R_gossip_Fork) p_p.2.2.1 cv_at))) <| ocv_refl)) <| hasBL_cons (hasB_of (ht rfl)) <| hasBL_nil) (by kernel_rfl) (c_gossip_Pool_place e4) (flat_tup (flatL_cons (Rep.flat_slot flat_i64 _) (flatL_cons (Rep.flat_slot flat_bl _) (flatL_nil))))) rfl rfl rfl ?_
    refine jp (pm (ht rfl)) rfl rfl rfl ?_
    refine jp (pj_extract (ht rfl) rfl) rfl rfl rfl ?_
    refine jp (pj_extract (ht rfl) rfl) rfl rfl rfl ?_
    refine jp (pa (ht rfl)) rfl rfl rfl ?_
    refine jp (pa (ht rfl)) rfl rfl rfl ?_
    refine j_end ?_
    refine rs ?_
    refine run_block ?_
    refine rs ?_
    obtain ⟨y1, e6, h⟩ := bind_some h
    refine (run_drawJ (n := 14) (Γ' := [(0, val (.pointer (some ⟨b_p, 0, none⟩))), (3, ptrTo R_head_Signed p_s), (5, i64.slot r2.1), (6, bl.slot r2.2), (40, bl.slot y1)]) (H' := [box b_p 116 (prod (sl u8) (prod (exv v_p1) (prod (exv v_p2) (exv v_p3)))) (p_p.1, (), (), ()), own 33 R_head_Signed v_p1 p_p.2.1, own 123 R_gossip_Fork v_p2 p_p.2.2.1, own 130 R_gossip_link v_p3 p_p.2.2.2]) ?_ fun J => ?_)
    · clear e6
      refine jp (pa (ht rfl)) rfl rfl rfl ?_
      refine j_end ?_
      refine run_cond (ht rfl) (fun e8 => ?_) (fun e8 => ?_)
      · replace h := bt e8 h
        refine rs ?_
        refine rt ?_
        refine jp (pa has_i64) rfl rfl rfl ?_
        refine j_end ?_
        obtain rfl := oi h
        exact run_ret fun a w hst => q_ret1 hst rfl (.tmp rfl) (v_p1, v_p2, v_p3) (fun _ _ h => h) (.cons .here <| .cons .here <| .cons .here <| .cons .here <| .nil)
      · replace h := bf e8 h
        refine rs ?_
        refine rt ?_
        refine jp (pm (ht rfl)) rfl rfl rfl ?_
        refine jp (pa (ht rfl)) rfl rfl rfl ?_
        refine j_end ?_
        refine run_cond (ht rfl) (fun e9 => ?_) (fun e9 => ?_)
        · replace h := bt e9 h
          refine rs ?_
          refine rs ?_
          refine rt ?_
          refine jp (pm (ht rfl)) rfl rfl rfl ?_
          refine jp (pj_field_to (ht rfl) (Path.fst R_head_Head (sl u8)) (by kernel_rfl)) rfl rfl rfl ?_
          refine jp (pj_field_to (ht rfl) (Path.fst i64 (prod i64 (prod R_api_Hash R_api_Hash))) (by kernel_rfl)) rfl rfl rfl ?_
          refine jp (pl (ht rfl) (by kernel_rfl)) rfl rfl rfl ?_
          obtain ⟨r3, e10, h⟩ := bind_some h
          refine jp (pj_callB (hasBL_cons (hasB_obj (ht rfl) .here (ocv_step (.next .here) (cv_snd (sl u8) p_p.1 (cv_fst (prod (exv v_p2) (exv v_p3)) ((), ()) cv_at)) <| ocv_step (.next (.next .here)) (cv_snd (sl u8) p_p.1 (cv_snd (sl R_head_Signed) p_p.2.1 (cv_fst (exv v_p3) () cv_at))) <| ocv_step (.next (.next (.next .here))) (cv_snd (sl u8) p_p.1 (cv_snd (sl R_head_Signed) p_p.2.1 (cv_snd (sl R_gossip_Fork) p_p.2.2.1 cv_at))) <| ocv_refl)) <| hasBL_cons (hasB_of (ht rfl)) <| hasBL_nil) (by kernel_rfl) (c_gossip_Pool_forked e10) (Rep.flat_slot flat_bl _)) rfl rfl rfl ?_
          refine jp (pj_not (ht rfl)) rfl rfl rfl ?_
          refine j_end ?_
          obtain ⟨y2, e17, h⟩ := bind_some h
          refine run_joinx (ι := Value) (Γ' := fun (v1 : Value) => []) (H' := fun (v1 : Value) => [box b_p 116 (prod (sl u8) (prod (exv v_p1) (prod (exv v1) (exv v_p3)))) (p_p.1, (), (), ()), own 123 R_gossip_Fork v1 y2, own 33 R_head_Signed v_p1 p_p.2.1, own 130 R_gossip_link v_p3 p_p.2.2.2]) ?_ fun J => ?_
          · intro v1
            clear e17
            show Run _ _ _ [] [box b_p 116 (prod (sl u8) (prod (exv v_p1) (prod (exv v1) (exv v_p3)))) (p_p.1, (), (), ()), own 123 R_gossip_Fork v1 y2, own 33 R_head_Signed v_p1 p_p.2.1, own 130 R_gossip_link v_p3 p_p.2.2.2]
            refine rs ?_
            refine rt ?_
            refine jp (pa has_i64) rfl rfl rfl ?_
            refine j_end ?_
            obtain rfl := oi h
            exact run_ret fun a w hst => q_ret1 hst rfl (.tmp rfl) (v_p1, v1, v_p3) (fun _ _ h => h) (.cons .here <| .cons (.next .here) <| .cons .here <| .cons .here <| .nil)
          · refine run_cond (ht rfl) (fun e11 => ?_) (fun e11 => ?_)
            · replace h := bt e11 e17
              obtain ⟨x2, e12, h⟩ := bind_some h
              obtain ⟨r4, e13, h⟩ := bind_some h
              obtain ⟨r5, e14, h⟩ := bind_some h
              obtain ⟨x3, e15, h⟩ := bind_some h
              obtain ⟨e16, h⟩ := grd_some h
              refine run_keep (H' := [own 123 R_gossip_Fork v_p2 p_p.2.2.1, box b_p 116 (prod (sl u8) (prod (exv v_p1) (prod (exv v_p2) (exv v_p3)))) (p_p.1, (), (), ()), own 33 R_head_Signed v_p1 p_p.2.1, own 130 R_gossip_link v_p3 p_p.2.2.2]) (.cons (.next (.next .here)) <| .cons .here <| .cons .here <| .cons .here <| .nil) ?_
              refine run_drawL (n := 18) (H := [box b_p 116 (prod (sl u8) (prod (exv v_p1) (prod (exv v_p2) (exv v_p3)))) (p_p.1, (), (), ()), own 33 R_head_Signed v_p1 p_p.2.1, own 130 R_gossip_link v_p3 p_p.2.2.2]) (Ls := [⟨[own 123 R_gossip_Fork v_p2 p_p.2.2.1], [(17, ⟨Value, fun (v2 : Value) => [own 123 R_gossip_Fork v2 (p_p.2.2.1 ++ ([x3]))], fun (v2 : Value) => [(66, ov v2)]⟩)]⟩]) (by kernel_rfl) (by kernel_rfl) (by kernel_rfl) (by kernel_rfl) (by kernel_rfl) rfl (.read rfl (.plain rfl (pm (ht rfl))) <| .read rfl (.plain rfl (pm (ht rfl))) <| .read rfl (.plain rfl (pj_nilCheck_ptr (ht rfl))) <| .read rfl (.plain rfl (pj_field_ptr (off := 2) (ht rfl) (by kernel_rfl))) <| .read rfl (.plain rfl (pj_load_box (ht rfl) .here (Path.then (Path.all (prod (sl u8) (prod (exv v_p1) (prod (exv v_p2) (exv v_p3))))) (Path.then (Path.snd (sl u8) (prod (exv v_p1) (prod (exv v_p2) (exv v_p3)))) (Path.then (Path.snd (exv v_p1) (prod (exv v_p2) (exv v_p3))) (Path.fst (exv v_p2) (exv v_p3))))) (by kernel_rfl))) <| .read rfl (.plain rfl (pm (ht rfl))) <| .read rfl (.plain rfl (pj_nilCheck_ptr (ht rfl))) <| .read rfl (.plain rfl (pj_field_ptr (off := 1) (ht rfl) (by kernel_rfl))) <| .read rfl (.plain rfl (pj_load_box (ht rfl) .here (Path.then (Path.all (prod (sl u8) (prod (exv v_p1) (prod (exv v_p2) (exv v_p3))))) (Path.then (Path.snd (sl u8) (prod (exv v_p1) (prod (exv v_p2) (exv v_p3)))) (Path.fst (exv v_p1) (prod (exv v_p2) (exv v_p3))))) (by kernel_rfl))) <| .read rfl (.plain rfl (pm (ht rfl))) <| .read rfl (.plain rfl (pj_index_own (ht rfl) (.next .here) (ht rfl) isInt_i64 (lget_some e12).1 (lget_some e12).2.1 (by kernel_rfl))) <| .read rfl (.plain rfl (PJ.eqv (pj_load_own0 R_head_Signed (r2.1.toNat) (ht rfl) (.next .here) (lget_some e12).2.1 (by kernel_rfl)) (lget_eq e12 (lget_some e12).2.1))) <| .read rfl (.plain rfl (pj_call (hc (ht rfl) <| hasL_nil) (by kernel_rfl) (c_gossip_copied e13))) <| .read rfl (.plain rfl (pl (ht rfl) (by kernel_rfl))) <| .read rfl (.plain rfl (pj_call (hc (ht rfl) <| hasL_nil) (by kernel_rfl) (c_gossip_copied e14))) <| .read rfl (.plain rfl (PJ.eqv (pj_build (R := R_gossip_Fork) (zero_prod (zero_prod (zero_prod zero_i64 (zero_prod zero_i64 (zero_prod (zero_vec 32 zero_un) (zero_vec 32 zero_un)))) zero_sl) (zero_prod (zero_prod zero_i64 (zero_prod zero_i64 (zero_prod (zero_vec 32 zero_un) (zero_vec 32 zero_un)))) zero_sl)) (by kernel_rfl) (by kernel_rfl) rfl (.cons (ht rfl) (Path.fst R_head_Signed R_head_Signed) (by kernel_rfl) (.cons (ht rfl) (Path.snd R_head_Signed R_head_Signed) (by kernel_rfl) .nil))) (oi e15))) <| .read rfl (.plain rfl (pj_buildSlice (T := 123) (R := R_gossip_Fork) (.cons (ht rfl) .nil) rfl (by kernel_rfl) (by kernel_rfl))) <| .step 0 rfl .here (.inl rfl) (fun i => ⟨_, _, fun j => j, (w_append (T := 123) (E := 123) (ht rfl) .here (src_data (ht rfl)) (by kernel_rfl) (by kernel_rfl) e16 rfl), fun _ => rfl, slotAny, dst1⟩) <| .nil) ?_
              rintro v2
              refine j_to (Γ' := [(49, val (.pointer (some ⟨b_p, 0, none⟩))), (66, ov v2)]) (H' := [own 123 R_gossip_Fork v2 (p_p.2.2.1 ++ ([x3])), box b_p 116 (prod (sl u8) (prod (exv v_p1) (prod (exv v_p2) (exv v_p3)))) (p_p.1, (), (), ()), own 33 R_head_Signed v_p1 p_p.2.1, own 130 R_gossip_link v_p3 p_p.2.2.2]) (.cons (.of_lk rfl) <| .cons (.of_lk rfl) <| .nil) (.cons .here <| .cons .here <| .cons .here <| .cons .here <| .nil) ?_
              refine jp (pj_nilCheck_ptr (ht rfl)) rfl rfl rfl ?_
              refine jp (pj_field_ptr (off := 2) (ht rfl) (by kernel_rfl)) rfl rfl rfl ?_
              refine j_store_se (p_p.1, (), (), ()) (ht rfl) (ht rfl) (.next .here) (se_snd (sl u8) p_p.1 (se_snd (exv v_p1) () (se_fst (exv v_p3) () se_here))) (by kernel_rfl) ?_
              refine j_end ?_
              obtain rfl := oi h
              exact run_to (.nil) (.cons .here <| .cons .here <| .cons .here <| .cons .here <| .nil) (J v2)
            · replace h := bf e11 e17
              refine run_skip ?_
              obtain rfl := oi h
              exact run_to (.nil) (.cons .here <| .cons (.next .here) <| .cons .here <| .cons .here <| .nil) (J v_p2)
        · replace h := bf e9 h
          refine rs ?_
          refine rt ?_
          refine jp (pm (ht rfl)) rfl rfl rfl ?_
          refine jp (pj_nilCheck_ptr (ht rfl)) rfl rfl rfl ?_
          refine jp (pj_field_ptr (off := 1) (ht rfl) (by kernel_rfl)) rfl rfl rfl ?_
          refine jp (pj_load_box (ht rfl) .here (Path.then (Path.all (prod (sl u8) (prod (exv v_p1) (prod (exv v_p2) (exv v_p3))))) (Path.then (Path.snd (sl u8) (prod (exv v_p1) (prod (exv v_p2) (exv v_p3)))) (Path.fst (exv v_p1) (prod (exv v_p2) (exv v_p3))))) (by kernel_rfl)) rfl rfl rfl ?_
          refine jp (pj_len_own (sz := 67) (ht rfl) (.next .here) (by kernel_rfl)) rfl rfl rfl ?_
          refine jp (pj_igeq (ht rfl) has_i64) rfl rfl rfl ?_
          obtain ⟨x4, e18, h⟩ := bind_some h
          refine jp (PJ.eqv (pa (ht rfl)) (oi e18)) rfl rfl rfl ?_
          refine j_end ?_
          refine run_cond (ht rfl) (fun e19 => ?_) (fun e19 => ?_)
          · replace h := bt e19 h
            refine rs ?_
            refine rt ?_
            refine jp (pa has_i64) rfl rfl rfl ?_
            refine j_end ?_
            obtain rfl := oi h
            exact run_ret fun a w hst => q_ret1 hst rfl (.tmp rfl) (v_p1, v_p2, v_p3) (fun _ _ h => h) (.cons .here <| .cons .here <| .cons .here <| .cons .here <| .nil)
          · replace h := bf e19 h
            refine run_skip ?_
            refine run_endblock ?_
            refine rs ?_
            obtain ⟨r6, e20, h⟩ := bind_some h
            obtain ⟨r7, e21, h⟩ := bind_some h
            refine run_keep (H' := [own 33 R_head_Signed v_p1 p_p.2.1, box b_p 116 (prod (sl u8) (prod (exv v_p1) (prod (exv v_p2) (exv v_p3)))) (p_p.1, (), (), ()), own 123 R_gossip_Fork v_p2 p_p.2.2.1, own 130 R_gossip_link v_p3 p_p.2.2.2]) (.cons (.next .here) <| .cons .here <| .cons .here <| .cons .here <| .nil) ?_
            refine run_drawL (n := 10) (H := [box b_p 116 (prod (sl u8) (prod (exv v_p1) (prod (exv v_p2) (exv v_p3)))) (p_p.1, (), (), ()), own 123 R_gossip_Fork v_p2 p_p.2.2.1, own 130 R_gossip_link v_p3 p_p.2.2.2]) (Ls := [⟨[own 33 R_head_Signed v_p1 p_p.2.1], [(8, ⟨Value, fun (v3 : Value) => [own 33 R_head_Signed v3 ([r6]), own 33 R_head_Signed v_p1 p_p.2.1], fun (v3 : Value) => [(84, ov v3)]⟩), (9, ⟨Value × Value, fun (i : Value × Value) => [own 33 R_head_Signed i.2 r7], fun (i : Value × Value) => [(85, ov i.2), (84, ov i.1)]⟩)]⟩]) (by kernel_rfl) (by kernel_rfl) (by kernel_rfl) (by kernel_rfl) (by kernel_rfl) rfl (.read rfl (.plain rfl (pm (ht rfl))) <| .read rfl (.plain rfl (pm (ht rfl))) <| .read rfl (.plain rfl (pj_nilCheck_ptr (ht rfl))) <| .read rfl (.plain rfl (pj_field_ptr (off := 1) (ht rfl) (by kernel_rfl))) <| .read rfl (.plain rfl (pj_load_box (ht rfl) .here (Path.then (Path.all (prod (sl u8) (prod (exv v_p1) (prod (exv v_p2) (exv v_p3))))) (Path.then (Path.snd (sl u8) (prod (exv v_p1) (prod (exv v_p2) (exv v_p3)))) (Path.fst (exv v_p1) (prod (exv v_p2) (exv v_p3))))) (by kernel_rfl))) <| .read rfl (.plain rfl (pm (ht rfl))) <| .read rfl (.plain rfl (pl (ht rfl) (by kernel_rfl))) <| .read rfl (.plain rfl (pj_call (hc (ht rfl) <| hasL_nil) (by kernel_rfl) (c_gossip_copied e20))) <| .step 0 rfl .here (.inl rfl) (fun i => ⟨_, _, fun j => j, (w_buildSlice (T := 33) (R := R_head_Signed) (.cons (ht rfl) .nil) rfl (by kernel_rfl) (by kernel_rfl) rfl), fun _ => rfl, slotAny, dst1⟩) <| .step 0 rfl (.next .here) (.inl rfl) (fun i => ⟨_, _, fun j => (i, j), (w_call (hc (ht rfl) <| hc (ht rfl) <| hc (ht rfl) <| hasL_nil) (by kernel_rfl) (c_slices_Insert_head_Signed_head_Signed e21) (.cons (.next .here) <| .cons .here <| .nil) rfl), fun _ => rfl, slotAny, dst1⟩) <| .nil) ?_
            rintro ⟨v3, v4⟩
            refine j_to (Γ' := [(76, val (.pointer (some ⟨b_p, 0, none⟩))), (85, ov v4)]) (H' := [own 33 R_head_Signed v4 r7, box b_p 116 (prod (sl u8) (prod (exv v_p1) (prod (exv v_p2) (exv v_p3)))) (p_p.1, (), (), ()), own 123 R_gossip_Fork v_p2 p_p.2.2.1, own 130 R_gossip_link v_p3 p_p.2.2.2]) (.cons (.of_lk rfl) <| .cons (.of_lk rfl) <| .nil) (.cons .here <| .cons .here <| .cons .here <| .cons .here <| .nil) ?_
            refine jp (pj_nilCheck_ptr (ht rfl)) rfl rfl rfl ?_
            refine jp (pj_field_ptr (off := 1) (ht rfl) (by kernel_rfl)) rfl rfl rfl ?_
            refine j_store_se (p_p.1, (), (), ()) (ht rfl) (ht rfl) (.next .here) (se_snd (sl u8) p_p.1 (se_fst (prod (exv v_p2) (exv v_p3)) ((), ()) se_here)) (by kernel_rfl) ?_
            refine j_end ?_
            refine rs ?_
            refine rt ?_
            refine jp (pa has_i64) rfl rfl rfl ?_
            refine j_end ?_
            obtain rfl := oi h
            exact run_ret fun a w hst => q_ret1 hst rfl (.tmp rfl) (v4, v_p2, v_p3) (fun _ _ h => h) (.cons .here <| .cons .here <| .cons .here <| .cons .here <| .nil)
    · rcases bool_tf (r2.2) with e5 | e5
      · replace e6 := bt e5 e6
        obtain ⟨x1, e7, e6⟩ := bind_some e6
        exact run_draw (n := 14) (by kernel_rfl) (by kernel_rfl) (by kernel_rfl) (by kernel_rfl) (.read (.plain rfl (pm (ht rfl))) <| .read (.plain rfl (pm (ht rfl))) <| .read (.yes ⟨1, true, _, 28, _, rfl, rfl, rfl, fun _ _ => bl_p.1, gd_yes e5⟩ (pm (ht rfl))) <| .read (.yes ⟨1, true, _, 28, _, rfl, rfl, rfl, fun _ _ => bl_p.1, gd_yes e5⟩ (pj_nilCheck_ptr (ht rfl))) <| .read (.yes ⟨1, true, _, 28, _, rfl, rfl, rfl, fun _ _ => bl_p.1, gd_yes e5⟩ (pj_field_ptr (off := 1) (ht rfl) (by kernel_rfl))) <| .read (.yes ⟨1, true, _, 28, _, rfl, rfl, rfl, fun _ _ => bl_p.1, gd_yes e5⟩ (pj_load_box (ht rfl) .here (Path.then (Path.all (prod (sl u8) (prod (exv v_p1) (prod (exv v_p2) (exv v_p3))))) (Path.then (Path.snd (sl u8) (prod (exv v_p1) (prod (exv v_p2) (exv v_p3)))) (Path.fst (exv v_p1) (prod (exv v_p2) (exv v_p3))))) (by kernel_rfl))) <| .read (.yes ⟨1, true, _, 28, _, rfl, rfl, rfl, fun _ _ => bl_p.1, gd_yes e5⟩ (pm (ht rfl))) <| .read (.yes ⟨1, true, _, 28, _, rfl, rfl, rfl, fun _ _ => bl_p.1, gd_yes e5⟩ (pj_index_own (ht rfl) (.next .here) (ht rfl) isInt_i64 (lget_some e7).1 (lget_some e7).2.1 (by kernel_rfl))) <| .read (.yes ⟨1, true, _, 28, _, rfl, rfl, rfl, fun _ _ => bl_p.1, gd_yes e5⟩ (pj_field_own0 (off := 0) (ht rfl) (by kernel_rfl))) <| .read (.yes ⟨1, true, _, 28, _, rfl, rfl, rfl, fun _ _ => bl_p.1, gd_yes e5⟩ (pj_load_own1 R_head_Signed r2.1 (ht rfl) (.next .here) e7 (Path.then (Path.all R_head_Signed) (Path.fst R_head_Head (sl u8))) (by kernel_rfl) rfl)) <| .read (.yes ⟨1, true, _, 28, _, rfl, rfl, rfl, fun _ _ => bl_p.1, gd_yes e5⟩ (pj_field_to (ht rfl) (Path.fst R_head_Head (sl u8)) (by kernel_rfl))) <| .read (.yes ⟨1, true, _, 28, _, rfl, rfl, rfl, fun _ _ => bl_p.1, gd_yes e5⟩ (pl (ht rfl) (by kernel_rfl))) <| .read (.yes ⟨1, true, _, 28, _, rfl, rfl, rfl, fun _ _ => bl_p.1, gd_yes e5⟩ (pj_eql (n := 3) (eq_struct (fs := #[Field.mk "Epoch" 3 0 false "" "" 0, Field.mk "Tick" 3 1 false "" "" 8, Field.mk "Tree" 23 2 false "" "" 16, Field.mk "Log" 23 34 false "" "" 48]) (by kernel_rfl) (by kernel_rfl) rfl (.cons rfl (by kernel_rfl) (by kernel_rfl) (EqOK.mono (by omega) (eq_i64 (by kernel_rfl))) (.cons rfl (by kernel_rfl) (by kernel_rfl) (EqOK.mono (by omega) (eq_i64 (by kernel_rfl))) (.cons rfl (by kernel_rfl) (by kernel_rfl) (eq_vec (e := 5) (by kernel_rfl) (by kernel_rfl) (eq_un (by kernel_rfl))) (.one rfl (by kernel_rfl) (by kernel_rfl) (eq_vec (e := 5) (by kernel_rfl) (by kernel_rfl) (eq_un (by kernel_rfl)))))))) (by decide) rfl (by kernel_rfl) (ht rfl) (ht rfl))) <| .read (.plain rfl (PJ.eqv (R := bl) (pj_pick (t := any) (ht rfl) (fun _ => (ht rfl)) (fun he => absurd (e5.symm.trans he) (by decide))) (oi e6))) <| .nil) (j_to (Γ' := [(0, val (.pointer (some ⟨b_p, 0, none⟩))), (3, ptrTo R_head_Signed p_s), (5, i64.slot r2.1), (6, bl.slot r2.2), (40, bl.slot y1)]) (H' := [box b_p 116 (prod (sl u8) (prod (exv v_p1) (prod (exv v_p2) (exv v_p3)))) (p_p.1, (), (), ()), own 33 R_head_Signed v_p1 p_p.2.1, own 123 R_gossip_Fork v_p2 p_p.2.2.1, own 130 R_gossip_link v_p3 p_p.2.2.2]) (.cons (.of_lk rfl) <| .cons (.of_lk rfl) <| .cons (.of_lk rfl) <| .cons (.of_lk rfl) <| .cons (.of_lk rfl) <| .nil) (.cons .here <| .cons .here <| .cons .here <| .cons .here <| .nil) J)
      · replace e6 := bf e5 e6
        exact run_draw (n := 14) (by kernel_rfl) (by kernel_rfl) (by kernel_rfl) (by kernel_rfl) (.read (.plain rfl (pm (ht rfl))) <| .read (.plain rfl (pm (ht rfl))) <| .read (.no ⟨1, true, _, 28, _, rfl, rfl, rfl, fun _ _ => bl_p.1, gd_no e5⟩) <| .read (.no ⟨1, true, _, 28, _, rfl, rfl, rfl, fun _ _ => bl_p.1, gd_no e5⟩) <| .read (.no ⟨1, true, _, 28, _, rfl, rfl, rfl, fun _ _ => bl_p.1, gd_no e5⟩) <| .read (.no ⟨1, true, _, 28, _, rfl, rfl, rfl, fun _ _ => bl_p.1, gd_no e5⟩) <| .read (.no ⟨1, true, _, 28, _, rfl, rfl, rfl, fun _ _ => bl_p.1, gd_no e5⟩) <| .read (.no ⟨1, true, _, 28, _, rfl, rfl, rfl, fun _ _ => bl_p.1, gd_no e5⟩) <| .read (.no ⟨1, true, _, 28, _, rfl, rfl, rfl, fun _ _ => bl_p.1, gd_no e5⟩) <| .read (.no ⟨1, true, _, 28, _, rfl, rfl, rfl, fun _ _ => bl_p.1, gd_no e5⟩) <| .read (.no ⟨1, true, _, 28, _, rfl, rfl, rfl, fun _ _ => bl_p.1, gd_no e5⟩) <| .read (.no ⟨1, true, _, 28, _, rfl, rfl, rfl, fun _ _ => bl_p.1, gd_no e5⟩) <| .read (.no ⟨1, true, _, 28, _, rfl, rfl, rfl, fun _ _ => bl_p.1, gd_no e5⟩) <| .read (.plain rfl (PJ.eqv (R := bl) (pj_pick (t := any) (ht rfl) (fun he => absurd (e5.symm.trans he) (by decide)) (fun _ => has_bl)) (oi e6))) <| .nil) (j_to (Γ' := [(0, val (.pointer (some ⟨b_p, 0, none⟩))), (3, ptrTo R_head_Signed p_s), (5, i64.slot r2.1), (6, bl.slot r2.2), (40, bl.slot y1)]) (H' := [box b_p 116 (prod (sl u8) (prod (exv v_p1) (prod (exv v_p2) (exv v_p3)))) (p_p.1, (), (), ()), own 33 R_head_Signed v_p1 p_p.2.1, own 123 R_gossip_Fork v_p2 p_p.2.2.1, own 130 R_gossip_link v_p3 p_p.2.2.2]) (.cons (.of_lk rfl) <| .cons (.of_lk rfl) <| .cons (.of_lk rfl) <| .cons (.of_lk rfl) <| .cons (.of_lk rfl) <| .nil) (.cons .here <| .cons .here <| .cons .here <| .cons .here <| .nil) J)
set_option maxRecDepth 100000 in
set_option maxHeartbeats 4000000 in
theorem c_lms_Tree_Keys {G : GP} {p_t : Option T_lms_Tree} {r : Int} (h : lms_Tree_Keys p_t = some r) : Ctr Tryz.prog G 131 [(ptr R_lms_Tree).slot p_t] [] (fun (_ : Unit) => i64.slot r) (fun (_ : Unit) => []) := by
  unfold lms_Tree_Keys at h
  refine ctr_of_run Tryz.func131 rfl 10 rfl rfl fun m0 w0 b0 => ?_
  show Run _ _ _ [(0, (ptr R_lms_Tree).slot p_t)] _
  refine rs ?_
  refine rt ?_
  refine jp (pa has_i64) rfl rfl rfl ?_
  refine j_end ?_
  refine rs ?_
  refine rs ?_
  refine rt ?_
  refine jp (pm (ht rfl)) rfl rfl rfl ?_
  refine jp (pj_eq_nil (E := 153) (by kernel_rfl) (ht rfl)) rfl rfl rfl ?_
  refine j_end ?_
  refine run_cond (ht rfl) (fun e1 => ?_) (fun e1 => ?_)
  · replace h := bt e1 h
    refine rs ?_
    refine rt ?_
    refine jp (pa has_i64) rfl rfl rfl ?_
    refine j_end ?_
    obtain rfl := oi h
    exact run_ret fun a w hst => q_ret1 hst rfl (.tmp rfl) () (fun _ _ h => h) (.nil)
  · replace h := bf e1 h
    refine run_skip ?_
    refine rs ?_
    refine rt ?_
    refine jp (pm (ht rfl)) rfl rfl rfl ?_
    obtain ⟨x1, e2, h⟩ := bind_some h
    refine jp (pj_nilCheck_some (ht rfl) e2) rfl rfl rfl ?_
    refine jp (pj_field_to (ht rfl) (Path.fst i64 (prod i64 (prod R_api_ID (prod R_api_Hash (sl R_api_Hash))))) (by kernel_rfl)) rfl rfl rfl ?_
    refine jp (pl (ht rfl) (by kernel_rfl)) rfl rfl rfl ?_
    obtain ⟨e3, h⟩ := grd_some h
    refine jp (pj_ishl has_i64 (ht rfl) isInt_i64 e3) rfl rfl rfl ?_
    refine jp (pa (ht rfl)) rfl rfl rfl ?_
    refine j_end ?_
    obtain rfl := oi h
    exact run_ret fun a w hst => q_ret1 hst rfl (.tmp rfl) () (fun _ _ h => h) (.nil)
set_option maxRecDepth 100000 in
set_option maxHeartbeats 4000000 in
theorem c_hss_Signer_Keys {G : GP} {p_s : Int × Int × T_api_Hash × (Option T_lms_Tree) × (Option T_lms_Tree) × Int} {b_s : Nat} {c_s : List Value} {r : Int} (h : hss_Signer_Keys p_s = some r) : Ctr Tryz.prog G 87 [val (.pointer (some ⟨b_s, 0, none⟩))] [box b_s 102 (exr (prod i64 (prod i64 (prod R_api_Hash (prod (ptr R_lms_Tree) (prod (ptr R_lms_Tree) i64))))) c_s) (p_s.1, p_s.2.1, p_s.2.2.1, p_s.2.2.2.1, p_s.2.2.2.2.1, p_s.2.2.2.2.2)] (fun (_ : Unit) => i64.slot r) (fun (_ : Unit) => [box b_s 102 (exr (prod i64 (prod i64 (prod R_api_Hash (prod (ptr R_lms_Tree) (prod (ptr R_lms_Tree) i64))))) c_s) (p_s.1, p_s.2.1, p_s.2.2.1, p_s.2.2.2.1, p_s.2.2.2.2.1, p_s.2.2.2.2.2)]) := by
  unfold hss_Signer_Keys at h
  refine ctr_of_run Tryz.func87 rfl 15 rfl rfl fun m0 w0 b0 => ?_
  show Run _ _ _ [(0, val (.pointer (some ⟨b_s, 0, none⟩)))] _
  refine rs ?_
  refine rt ?_
  refine jp (PJ.xw (.ex .refl) (pa has_i64)) rfl rfl rfl ?_
  refine j_end ?_
  refine rs ?_
  refine rs ?_
  refine rt ?_
  refine jp (PJ.xw (.ex .refl) (pm (ht rfl))) rfl rfl rfl ?_
  refine jp (PJ.xw (.ex .refl) (pj_eq_nil_val (E := 102) (by kernel_rfl) (ht rfl))) rfl rfl rfl ?_
  refine j_end ?_
  refine run_cond_f (ht rfl) rfl ?_
  refine run_skip ?_
  refine rs ?_
  obtain ⟨r1, e2, h⟩ := bind_some h
  refine run_draw (n := 9) (by kernel_rfl) (by kernel_rfl) (by kernel_rfl) (by kernel_rfl) (.read (.plain rfl (PJ.xw (.ex .refl) (pm (ht rfl)))) <| .read (.plain rfl (PJ.xw (.ex .refl) (pj_nilCheck_ptr (ht rfl)))) <| .read (.plain rfl (PJ.xw (.ex .refl) (pj_field_ptr (off := 34) (ht rfl) (by kernel_rfl)))) <| .read (.plain rfl (PJ.xw (.ex .refl) (pj_load_box (ht rfl) .here (Path.then (Path.all (prod i64 (prod i64 (prod R_api_Hash (prod (ptr R_lms_Tree) (prod (ptr R_lms_Tree) i64)))))) (Path.then (Path.snd i64 (prod i64 (prod R_api_Hash (prod (ptr R_lms_Tree) (prod (ptr R_lms_Tree) i64))))) (Path.then (Path.snd i64 (prod R_api_Hash (prod (ptr R_lms_Tree) (prod (ptr R_lms_Tree) i64)))) (Path.then (Path.snd R_api_Hash (prod (ptr R_lms_Tree) (prod (ptr R_lms_Tree) i64))) (Path.fst (ptr R_lms_Tree) (prod (ptr R_lms_Tree) i64)))))) (by kernel_rfl)))) <| .read (.plain rfl (PJ.xw (.ex .refl) (pj_call (hc (ht rfl) <| hasL_nil) (by kernel_rfl) (c_lms_Tree_Keys e2)))) <| .read (.plain rfl (PJ.xw (.ex .refl) (pm (ht rfl)))) <| .read (.plain rfl (PJ.xw (.ex .refl) (pj_nilCheck_ptr (ht rfl)))) <| .read (.plain rfl (PJ.xw (.ex .refl) (pj_field_ptr (off := 0) (ht rfl) (by kernel_rfl)))) <| .read (.plain rfl (PJ.xw (.ex .refl) (pj_load_box (ht rfl) .here (Path.then (Path.all (prod i64 (prod i64 (prod R_api_Hash (prod (ptr R_lms_Tree) (prod (ptr R_lms_Tree) i64)))))) (Path.fst i64 (prod i64 (prod R_api_Hash (prod (ptr R_lms_Tree) (prod (ptr R_lms_Tree) i64)))))) (by kernel_rfl)))) <| .nil) (j_to (Γ' := [(9, i64.slot r1), (13, i64.slot p_s.1)]) (H' := [box b_s 102 (exr (prod i64 (prod i64 (prod R_api_Hash (prod (ptr R_lms_Tree) (prod (ptr R_lms_Tree) i64))))) c_s) (p_s.1, p_s.2.1, p_s.2.2.1, p_s.2.2.2.1, p_s.2.2.2.2.1, p_s.2.2.2.2.2)]) (.cons (.of_lk rfl) <| .cons (.of_lk rfl) <| .nil) (.cons .here <| .nil) ?_)
  obtain ⟨e3, h⟩ := grd_some h
  refine jp (PJ.xw (.ex .refl) (pj_ishl (ht rfl) (ht rfl) isInt_i64 e3)) rfl rfl rfl ?_
  refine jp (PJ.xw (.ex .refl) (pa (ht rfl))) rfl rfl rfl ?_
  refine j_end ?_
  obtain rfl := oi h
  exact run_ret fun a w hst => q_ret1 hst rfl (.tmp rfl) () (fun _ _ h => h) (.cons .here <| .nil)
set_option maxRecDepth 100000 in
set_option maxHeartbeats 4000000 in
theorem c_hss_Signer_tree {G : GP} (hg0 : HG0 G) (hg1 : HG1 G) (hg2 : HG2 G) {p_s : Int × Int × T_api_Hash × (Option T_lms_Tree) × (Option T_lms_Tree) × Int} {p_i : Int} {b_s : Nat} {r : (Int × Int × T_api_Hash × (Option T_lms_Tree) × (Option T_lms_Tree) × Int) × (Option T_lms_Tree) × Int} (h : hss_Signer_tree p_s p_i = some r) : Ctr Tryz.prog G 88 [val (.pointer (some ⟨b_s, 0, none⟩)), i64.slot p_i] [box b_s 102 (prod i64 (prod i64 (prod R_api_Hash (prod (ptr R_lms_Tree) (prod (ptr R_lms_Tree) i64))))) (p_s.1, p_s.2.1, p_s.2.2.1, p_s.2.2.2.1, p_s.2.2.2.2.1, p_s.2.2.2.2.2)] (fun (_ : Unit) => tup [(ptr R_lms_Tree).slot r.2.1, i64.slot r.2.2]) (fun (_ : Unit) => [box b_s 102 (prod i64 (prod i64 (prod R_api_Hash (prod (ptr R_lms_Tree) (prod (ptr R_lms_Tree) i64))))) (r.1.1, r.1.2.1, r.1.2.2.1, r.1.2.2.2.1, r.1.2.2.2.2.1, r.1.2.2.2.2.2)]) := by
  unfold hss_Signer_tree at h
  refine ctr_of_run Tryz.func88 rfl 66 rfl rfl fun m0 w0 b0 => ?_
  show Run _ _ _ [(0, val (.pointer (some ⟨b_s, 0, none⟩))), (1, i64.slot p_i)] _
  refine rs ?_
  refine rt ?_
  refine jp (pa (has_nilp (R := R_lms_Tree))) rfl rfl rfl ?_
  refine jp (pa has_i64) rfl rfl rfl ?_
  refine j_end ?_
  refine rs ?_
  refine rs ?_
  refine rt ?_
  refine jp (pm (ht rfl)) rfl rfl rfl ?_
  refine jp (pj_nilCheck_ptr (ht rfl)) rfl rfl rfl ?_
  refine jp (pj_field_ptr (off := 36) (ht rfl) (by kernel_rfl)) rfl rfl rfl ?_
  refine jp (pj_load_box (ht rfl) .here (Path.then (Path.all (prod i64 (prod i64 (prod R_api_Hash (prod (ptr R_lms_Tree) (prod (ptr R_lms_Tree) i64)))))) (Path.then (Path.snd i64 (prod i64 (prod R_api_Hash (prod (ptr R_lms_Tree) (prod (ptr R_lms_Tree) i64))))) (Path.then (Path.snd i64 (prod R_api_Hash (prod (ptr R_lms_Tree) (prod (ptr R_lms_Tree) i64)))) (Path.then (Path.snd R_api_Hash (prod (ptr R_lms_Tree) (prod (ptr R_lms_Tree) i64))) (Path.then (Path.snd (ptr R_lms_Tree) (prod (ptr R_lms_Tree) i64)) (Path.snd (ptr R_lms_Tree) i64)))))) (by kernel_rfl)) rfl rfl rfl ?_
  refine jp (pm (ht rfl)) rfl rfl rfl ?_
  refine jp (pj_ieql (ht rfl) (ht rfl)) rfl rfl rfl ?_
  refine j_end ?_
  refine run_cond (ht rfl) (fun e1 => ?_) (fun e1 => ?_)
  · replace h := bt e1 h
    refine rs ?_
    refine rt ?_
    refine jp (pm (ht rfl)) rfl rfl rfl ?_
    refine jp (pj_nilCheck_ptr (ht rfl)) rfl rfl rfl ?_
    refine jp (pj_field_ptr (off := 35) (ht rfl) (by kernel_rfl)) rfl rfl rfl ?_
    refine jp (pj_load_box (ht rfl) .here (Path.then (Path.all (prod i64 (prod i64 (prod R_api_Hash (prod (ptr R_lms_Tree) (prod (ptr R_lms_Tree) i64)))))) (Path.then (Path.snd i64 (prod i64 (prod R_api_Hash (prod (ptr R_lms_Tree) (prod (ptr R_lms_Tree) i64))))) (Path.then (Path.snd i64 (prod R_api_Hash (prod (ptr R_lms_Tree) (prod (ptr R_lms_Tree) i64)))) (Path.then (Path.snd R_api_Hash (prod (ptr R_lms_Tree) (prod (ptr R_lms_Tree) i64))) (Path.then (Path.snd (ptr R_lms_Tree) (prod (ptr R_lms_Tree) i64)) (Path.fst (ptr R_lms_Tree) i64)))))) (by kernel_rfl)) rfl rfl rfl ?_
    refine jp (pa (ht rfl)) rfl rfl rfl ?_
    refine jp (pa has_i64) rfl rfl rfl ?_
    refine j_end ?_
    obtain rfl := oi h
    exact run_ret fun a w hst => q_retN hst rfl (.cons (.tmp rfl) <| .cons (.tmp rfl) <| .nil) rfl () (fun _ _ h => h) (.cons .here <| .nil)
  · replace h := bf e1 h
    refine run_skip ?_
    refine rs ?_
    refine rt ?_
    refine jp (pm (ht rfl)) rfl rfl rfl ?_
    refine jp (pj_nilCheck_ptr (ht rfl)) rfl rfl rfl ?_
    refine jp (pj_field_ptr (off := 2) (ht rfl) (by kernel_rfl)) rfl rfl rfl ?_
    refine jp (pj_load_box (ht rfl) .here (Path.then (Path.all (prod i64 (prod i64 (prod R_api_Hash (prod (ptr R_lms_Tree) (prod (ptr R_lms_Tree) i64)))))) (Path.then (Path.snd i64 (prod i64 (prod R_api_Hash (prod (ptr R_lms_Tree) (prod (ptr R_lms_Tree) i64))))) (Path.then (Path.snd i64 (prod R_api_Hash (prod (ptr R_lms_Tree) (prod (ptr R_lms_Tree) i64)))) (Path.fst R_api_Hash (prod (ptr R_lms_Tree) (prod (ptr R_lms_Tree) i64)))))) (by kernel_rfl)) rfl rfl rfl ?_
    refine jp (pm (ht rfl)) rfl rfl rfl ?_
    refine jp (pj_ishr (ht rfl) (has_un (x := 24#64) rfl) isInt_un (Int.natCast_nonneg _)) rfl rfl rfl ?_
    refine jp (pj_conv_un (k := .u8) (b := 8) rfl rfl (by kernel_rfl) (ht rfl) isInt_i64) rfl rfl rfl ?_
    refine jp (pm (ht rfl)) rfl rfl rfl ?_
    refine jp (pj_ishr (ht rfl) (has_un (x := 16#64) rfl) isInt_un (Int.natCast_nonneg _)) rfl rfl rfl ?_
    refine jp (pj_conv_un (k := .u8) (b := 8) rfl rfl (by kernel_rfl) (ht rfl) isInt_i64) rfl rfl rfl ?_
    refine jp (pm (ht rfl)) rfl rfl rfl ?_
    refine jp (pj_ishr (ht rfl) (has_un (x := 8#64) rfl) isInt_un (Int.natCast_nonneg _)) rfl rfl rfl ?_
    refine jp (pj_conv_un (k := .u8) (b := 8) rfl rfl (by kernel_rfl) (ht rfl) isInt_i64) rfl rfl rfl ?_
    refine jp (pm (ht rfl)) rfl rfl rfl ?_
    refine jp (pj_conv_un (k := .u8) (b := 8) rfl rfl (by kernel_rfl) (ht rfl) isInt_i64) rfl rfl rfl ?_
    refine jp (pj_buildSlice (T := 5) (R := u8) (.cons (ht rfl) (.cons (ht rfl) (.cons (ht rfl) (.cons (ht rfl) .nil)))) rfl (by kernel_rfl) (by kernel_rfl)) rfl rfl rfl ?_
    obtain ⟨r1, e2, h⟩ := bind_some h
    refine jp (pj_call (hc (ht rfl) <| hc (ht rfl) <| hasL_nil) (by kernel_rfl) (c_hss_child hg1 hg2 e2)) rfl rfl rfl ?_
    refine jp (pm (ht rfl)) rfl rfl rfl ?_
    refine jp (pj_extract (ht rfl) rfl) rfl rfl rfl ?_
    refine jp (pj_extract (ht rfl) rfl) rfl rfl rfl ?_
    refine j_alloc (x := (Vector.replicate 16 (0#8))) (R := R_api_ID) (zero_vec 16 zero_un) (by kernel_rfl) rfl fun b1 => ?_
    refine j_alloc (x := (Vector.replicate 32 (0#8))) (R := R_api_Hash) (zero_vec 32 zero_un) (by kernel_rfl) rfl fun b2 => ?_
    refine j_store_boxx (r' := r1.1) (ht rfl) (ht rfl) (.next .here) (Path.all R_api_ID) (by kernel_rfl) rfl ?_
    refine j_freezeTo (t := 6) .here (.of_lk rfl) ?_
    refine j_store_boxx (r' := r1.2) (ht rfl) (ht rfl) .here (Path.all R_api_Hash) (by kernel_rfl) rfl ?_
    refine j_freezeTo (t := 7) .here (.of_lk rfl) ?_
    refine j_end ?_
    refine rs ?_
    obtain ⟨r2, e3, h⟩ := bind_some h
    refine run_draw (n := 15) (by kernel_rfl) (by kernel_rfl) (by kernel_rfl) (by kernel_rfl) (.read (.plain rfl (pm (ht rfl))) <| .read (.plain rfl (pj_nilCheck_ptr (ht rfl))) <| .read (.plain rfl (pj_field_ptr (off := 0) (ht rfl) (by kernel_rfl))) <| .read (.plain rfl (pj_load_box (ht rfl) .here (Path.then (Path.all (prod i64 (prod i64 (prod R_api_Hash (prod (ptr R_lms_Tree) (prod (ptr R_lms_Tree) i64)))))) (Path.fst i64 (prod i64 (prod R_api_Hash (prod (ptr R_lms_Tree) (prod (ptr R_lms_Tree) i64)))))) (by kernel_rfl))) <| .read (.plain rfl (pm (ht rfl))) <| .read (.plain rfl (pj_nilCheck_ptr (ht rfl))) <| .read (.plain rfl (pj_field_ptr (off := 1) (ht rfl) (by kernel_rfl))) <| .read (.plain rfl (pj_load_box (ht rfl) .here (Path.then (Path.all (prod i64 (prod i64 (prod R_api_Hash (prod (ptr R_lms_Tree) (prod (ptr R_lms_Tree) i64)))))) (Path.then (Path.snd i64 (prod i64 (prod R_api_Hash (prod (ptr R_lms_Tree) (prod (ptr R_lms_Tree) i64))))) (Path.fst i64 (prod R_api_Hash (prod (ptr R_lms_Tree) (prod (ptr R_lms_Tree) i64)))))) (by kernel_rfl))) <| .read (.plain rfl (pl (ht rfl) (by kernel_rfl))) <| .read (.plain rfl (pl (ht rfl) (by kernel_rfl))) <| .read (.plain rfl (pj_call (hc (ht rfl) <| hc (ht rfl) <| hc (ht rfl) <| hc (ht rfl) <| hasL_nil) (by kernel_rfl) (c_lms_New hg0 hg1 hg2 e3))) <| .read (.plain rfl (pm (ht rfl))) <| .read (.plain rfl (pj_extract (ht rfl) rfl)) <| .read (.plain rfl (pj_extract (ht rfl) rfl)) <| .read (.plain rfl (pa (ht rfl))) <| .nil) (j_to (Γ' := [(0, val (.pointer (some ⟨b_s, 0, none⟩))), (1, i64.slot p_i), (8, (ptr R_lms_Tree).slot r2.1), (53, i64.slot r2.2)]) (H' := [box b_s 102 (prod i64 (prod i64 (prod R_api_Hash (prod (ptr R_lms_Tree) (prod (ptr R_lms_Tree) i64))))) (p_s.1, p_s.2.1, p_s.2.2.1, p_s.2.2.2.1, p_s.2.2.2.2.1, p_s.2.2.2.2.2)]) (.cons (.of_lk rfl) <| .cons (.of_lk rfl) <| .cons (.of_lk rfl) <| .cons (.of_lk rfl) <| .nil) (.cons .here <| .nil) ?_)
    refine jp (pa (ht rfl)) rfl rfl rfl ?_
    refine j_end ?_
    refine rs ?_
    refine rs ?_
    refine rt ?_
    refine jp (pm (ht rfl)) rfl rfl rfl ?_
    refine jp (pj_ineq (ht rfl) has_i64) rfl rfl rfl ?_
    refine j_end ?_
    refine run_cond (ht rfl) (fun e4 => ?_) (fun e4 => ?_)
    · replace h := bt e4 h
      refine rs ?_
      refine rt ?_
      refine jp (pm (ht rfl)) rfl rfl rfl ?_
      refine jp (pa (has_nilp (R := R_lms_Tree))) rfl rfl rfl ?_
      refine jp (pa (ht rfl)) rfl rfl rfl ?_
      refine j_end ?_
      obtain rfl := oi h
      exact run_ret fun a w hst => q_retN hst rfl (.cons (.tmp rfl) <| .cons (.tmp rfl) <| .nil) rfl () (fun _ _ h => h) (.cons .here <| .nil)
    · replace h := bf e4 h
      refine run_skip ?_
      refine rs ?_
      refine rt ?_
      refine jp (pm (ht rfl)) rfl rfl rfl ?_
      refine jp (pm (ht rfl)) rfl rfl rfl ?_
      refine jp (pm (ht rfl)) rfl rfl rfl ?_
      refine jp (pm (ht rfl)) rfl rfl rfl ?_
      refine jp (pj_nilCheck_ptr (ht rfl)) rfl rfl rfl ?_
      refine jp (pj_field_ptr (off := 35) (ht rfl) (by kernel_rfl)) rfl rfl rfl ?_
      refine j_store_boxx (r' := (p_s.1, p_s.2.1, p_s.2.2.1, p_s.2.2.2.1, r2.1, p_s.2.2.2.2.2)) (ht rfl) (ht rfl) .here (Path.then (Path.all (prod i64 (prod i64 (prod R_api_Hash (prod (ptr R_lms_Tree) (prod (ptr R_lms_Tree) i64)))))) (Path.then (Path.snd i64 (prod i64 (prod R_api_Hash (prod (ptr R_lms_Tree) (prod (ptr R_lms_Tree) i64))))) (Path.then (Path.snd i64 (prod R_api_Hash (prod (ptr R_lms_Tree) (prod (ptr R_lms_Tree) i64)))) (Path.then (Path.snd R_api_Hash (prod (ptr R_lms_Tree) (prod (ptr R_lms_Tree) i64))) (Path.then (Path.snd (ptr R_lms_Tree) (prod (ptr R_lms_Tree) i64)) (Path.fst (ptr R_lms_Tree) i64)))))) (by kernel_rfl) rfl ?_
      refine jp (pj_nilCheck_ptr (ht rfl)) rfl rfl rfl ?_
      refine jp (pj_field_ptr (off := 36) (ht rfl) (by kernel_rfl)) rfl rfl rfl ?_
      refine j_store_boxx (r' := (p_s.1, p_s.2.1, p_s.2.2.1, p_s.2.2.2.1, r2.1, p_i)) (ht rfl) (ht rfl) .here (Path.then (Path.all (prod i64 (prod i64 (prod R_api_Hash (prod (ptr R_lms_Tree) (prod (ptr R_lms_Tree) i64)))))) (Path.then (Path.snd i64 (prod i64 (prod R_api_Hash (prod (ptr R_lms_Tree) (prod (ptr R_lms_Tree) i64))))) (Path.then (Path.snd i64 (prod R_api_Hash (prod (ptr R_lms_Tree) (prod (ptr R_lms_Tree) i64)))) (Path.then (Path.snd R_api_Hash (prod (ptr R_lms_Tree) (prod (ptr R_lms_Tree) i64))) (Path.then (Path.snd (ptr R_lms_Tree) (prod (ptr R_lms_Tree) i64)) (Path.snd (ptr R_lms_Tree) i64)))))) (by kernel_rfl) rfl ?_
      refine j_end ?_
      refine rs ?_
      refine rt ?_
      refine jp (pm (ht rfl)) rfl rfl rfl ?_
      refine jp (pa (ht rfl)) rfl rfl rfl ?_
      refine jp (pa has_i64) rfl rfl rfl ?_
      refine j_end ?_
      obtain rfl := oi h
      exact run_ret fun a w hst => q_retN hst rfl (.cons (.tmp rfl) <| .cons (.tmp rfl) <| .nil) rfl () (fun _ _ h => h) (.cons .here <| .nil)
set_option maxRecDepth 100000 in
set_option maxHeartbeats 4000000 in
theorem c_lmots_Sign {G : GP} (hg0 : HG0 G) (hg1 : HG1 G) (hg2 : HG2 G) {p_kind : Int} {p_id : T_api_ID} {p_q : BitVec 32} {p_seed : T_api_Hash} {p_message : List (BitVec 8)} {r : (List (BitVec 8)) × Int} (h : lmots_Sign p_kind p_id p_q p_seed p_message = some r) : Ctr Tryz.prog G 132 [i64.slot p_kind, R_api_ID.slot p_id, u32.slot p_q, R_api_Hash.slot p_seed, (sl u8).slot p_message] [] (fun (u0 : Value) => tup [ov u0, i64.slot r.2]) (fun (u0 : Value) => [own 5 u8 u0 r.1]) := by
  unfold lmots_Sign at h
  refine ctr_of_run Tryz.func132 rfl 71 rfl rfl fun m0 w0 b0 => ?_
  show Run _ _ _ [(0, i64.slot p_kind), (1, R_api_ID.slot p_id), (2, u32.slot p_q), (3, R_api_Hash.slot p_seed), (4, (sl u8).slot p_message)] _
  refine rs ?_
  refine rt ?_
  refine jp (pj_box_to (ht rfl)) rfl rfl rfl ?_
  refine jp (pj_box_to (ht rfl)) rfl rfl rfl ?_
  refine j_assign_nil (T := 5) u8 rfl fun v1 => ?_
  refine jp (pa has_i64) rfl rfl rfl ?_
  refine j_end ?_
  refine rs ?_
  refine rt ?_
  refine jp (pm (ht rfl)) rfl rfl rfl ?_
  obtain ⟨r1, e1, h⟩ := bind_some h
  refine jp (pj_call (hc (ht rfl) <| hasL_nil) (by kernel_rfl) (c_lmots_of hg0 e1)) rfl rfl rfl ?_
  refine jp (pm (ht rfl)) rfl rfl rfl ?_
  refine jp (pj_extract (ht rfl) rfl) rfl rfl rfl ?_
  refine jp (pj_extract (ht rfl) rfl) rfl rfl rfl ?_
  refine j_alloc (x := (0, 0, 0)) (R := R_lmots_form) (zero_prod zero_i64 (zero_prod zero_i64 zero_i64)) (by kernel_rfl) rfl fun b1 => ?_
  refine j_store_boxx (r' := r1.1) (ht rfl) (ht rfl) .here (Path.all R_lmots_form) (by kernel_rfl) rfl ?_
  refine j_freezeTo (t := 12) .here (.of_lk rfl) ?_
  refine jp (pa (ht rfl)) rfl rfl rfl ?_
  refine j_end ?_
  refine rs ?_
  refine rs ?_
  refine rt ?_
  refine jp (pm (ht rfl)) rfl rfl rfl ?_
  refine jp (pj_not (ht rfl)) rfl rfl rfl ?_
  refine j_end ?_
  refine run_cond (ht rfl) (fun e2 => ?_) (fun e2 => ?_)
  · replace h := bt e2 h
    refine rs ?_
    refine rt ?_
    refine j_assign_nil (T := 5) u8 rfl fun v2 => ?_
    refine jp (pa has_i64) rfl rfl rfl ?_
    refine j_end ?_
    obtain rfl := oi h
    exact run_ret fun a w hst => q_retN hst rfl (.cons (.tmp rfl) <| .cons (.tmp rfl) <| .nil) rfl v2 (fun _ _ h => h) (.cons .here <| .nil)
  · replace h := bf e2 h
    refine run_skip ?_
    refine rs ?_
    refine rt ?_
    refine jp (pl (ht rfl) (by kernel_rfl)) rfl rfl rfl ?_
    refine jp (pm (ht rfl)) rfl rfl rfl ?_
    refine jp (pl (ht rfl) (by kernel_rfl)) rfl rfl rfl ?_
    obtain ⟨r2, e3, h⟩ := bind_some h
    refine jp (pj_call (hc (ht rfl) <| hc (ht rfl) <| hc has_i64 <| hc (ht rfl) <| hasL_nil) (by kernel_rfl) (c_lmots_secret hg1 hg2 e3)) rfl rfl rfl ?_
    refine j_alloc (x := (Vector.replicate 32 (0#8))) (R := R_api_Hash) (zero_vec 32 zero_un) (by kernel_rfl) rfl fun b2 => ?_
    refine j_store_boxx (r' := r2) (ht rfl) (ht rfl) .here (Path.all R_api_Hash) (by kernel_rfl) rfl ?_
    refine j_freezeTo (t := 14) .here (.of_lk rfl) ?_
    refine j_end ?_
    refine rs ?_
    refine rt ?_
    refine jp (pj_build (R := prod (exv (.slice none 0 0)) bl) (zero_prod zero_exv zero_bl) (by kernel_rfl) (by kernel_rfl) rfl .nil) rfl rfl rfl ?_
    refine j_box_w (T1 := 5) u8 (ht rfl) rfl fun b3 v3 => ?_
    refine jp (pa (ht rfl)) rfl rfl rfl ?_
    refine j_end ?_
    refine rs ?_
    refine rt ?_
    refine jp (pm (ht rfl)) rfl rfl rfl ?_
    refine jp (pm (ht rfl)) rfl rfl rfl ?_
    refine jp (pj_conv_un (k := .u32) (b := 32) rfl rfl (by kernel_rfl) (ht rfl) isInt_i64) rfl rfl rfl ?_
    obtain ⟨r3, e4, h⟩ := bind_some h
    refine j_call (hc (ht rfl) <| hc (ht rfl) <| hasL_nil) (by kernel_rfl) (c_wire_Writer_U32 e4) (.cons (.next .here) <| .cons .here <| .nil) rfl fun v4 => ?_
    refine j_end ?_
    refine rs ?_
    refine rt ?_
    refine jp (pm (ht rfl)) rfl rfl rfl ?_
    refine jp (pj_slice_toF (ht rfl) (by decide) (by kernel_rfl)) rfl rfl rfl ?_
    obtain ⟨r4, e5, h⟩ := bind_some h
    refine j_call (hc (ht rfl) <| hc (ht rfl) <| hasL_nil) (by kernel_rfl) (c_wire_Writer_Plain e5) (.cons .here <| .cons .here <| .nil) rfl fun v5 => ?_
    refine j_end ?_
    refine rs ?_
    refine rs ?_
    obtain ⟨r5, e6, h⟩ := bind_some h
    obtain ⟨r6, e7, h⟩ := bind_some h
    refine run_draw (n := 10) (by kernel_rfl) (by kernel_rfl) (by kernel_rfl) (by kernel_rfl) (.read (.plain rfl (pl (ht rfl) (by kernel_rfl))) <| .read (.plain rfl (pl (ht rfl) (by kernel_rfl))) <| .read (.plain rfl (pm (ht rfl))) <| .read (.plain rfl (pj_slice_toF (ht rfl) (by decide) (by kernel_rfl))) <| .read (.plain rfl (pm (ht rfl))) <| .read (.plain rfl (pj_buildSlice (T := 31) (R := (sl u8)) (.cons (ht rfl) (.cons (ht rfl) .nil)) rfl (by kernel_rfl) (by kernel_rfl))) <| .read (.plain rfl (pj_call (hc (ht rfl) <| hc (ht rfl) <| hc has_i64 <| hc (ht rfl) <| hasL_nil) (by kernel_rfl) (c_lmots_under hg1 hg2 e6))) <| .read (.plain rfl (pj_call (hc (ht rfl) <| hc (ht rfl) <| hasL_nil) (by kernel_rfl) (Ctr.froze (c_lmots_form_digits e7)))) <| .read (.plain rfl (pj_len_sl (sz := 1) (ht rfl) (by kernel_rfl))) <| .read (.plain rfl (pm has_i64)) <| .nil) (j_to (Γ' := [(2, u32.slot p_q), (6, ptrTo R_api_ID p_id), (8, ptrTo R_api_Hash p_seed), (15, val (.pointer (some ⟨b3, 0, none⟩))), (46, (sl i64).slot r6), (47, i64.slot (r6.length : Int)), (48, i64.slot (0 : Int))]) (H' := [box b3 161 (prod (exv v5) bl) ((), r4.2), own 5 u8 v5 r4.1]) (.cons (.of_lk rfl) <| .cons (.of_lk rfl) <| .cons (.of_lk rfl) <| .cons (.of_lk rfl) <| .cons (.of_lk rfl) <| .cons (.of_lk rfl) <| .cons (.of_lk rfl) <| .nil) (.cons .here <| .cons .here <| .nil) ?_)
    refine j_end ?_
    obtain ⟨⟨y4, y5, y6⟩, e13, h⟩ := bind_some h
    refine run_loopS (Γi := fun (i : Value) (s : Int × Bool × (List (BitVec 8))) => [(2, u32.slot p_q), (6, ptrTo R_api_ID p_id), (8, ptrTo R_api_Hash p_seed), (15, val (.pointer (some ⟨b3, 0, none⟩))), (46, (sl i64).slot r6), (47, i64.slot (r6.length : Int)), (48, i64.slot s.1)]) (Hi := fun (i : Value) (s : Int × Bool × (List (BitVec 8))) => [box b3 161 (prod (exv i) bl) ((), s.2.1), own 5 u8 i s.2.2]) e13 v5 (fun a w hst => (hst.sub (.cons (.of_lk rfl) <| .cons (.of_lk rfl) <| .cons (.of_lk rfl) <| .cons (.of_lk rfl) <| .cons (.of_lk rfl) <| .cons (.of_lk rfl) <| .cons (.of_lk rfl) <| .nil)).keep (.cons .here <| .cons .here <| .nil)) ?_ ?_
    · clear h e13
      rintro v6 ⟨y1, y2, y3⟩ lr h
      change lmots_Sign_L1 r6 p_id p_q p_seed y1 y2 y3 = some _ at h
      show Run _ _ _ [(2, u32.slot p_q), (6, ptrTo R_api_ID p_id), (8, ptrTo R_api_Hash p_seed), (15, val (.pointer (some ⟨b3, 0, none⟩))), (46, (sl i64).slot r6), (47, i64.slot (r6.length : Int)), (48, i64.slot y1)] [box b3 161 (prod (exv v6) bl) ((), y2), own 5 u8 v6 y3]
      unfold lmots_Sign_L1 at h
      refine rs ?_
      refine rt ?_
      refine jp (pj_ilss (ht rfl) (ht rfl)) rfl rfl rfl ?_
      refine j_end ?_
      refine rs ?_
      refine run_cond (ht rfl) (fun e8 => ?_) (fun e8 => ?_)
      · replace h := bt e8 h
        refine run_skip ?_
        refine rs ?_
        refine run_block ?_
        refine rs ?_
        refine rt ?_
        refine jp (pm (ht rfl)) rfl rfl rfl ?_
        obtain ⟨x1, e9, h⟩ := bind_some h
        refine jp (pj_index_slx (ht rfl) (ht rfl) isInt_i64 e9 (by kernel_rfl)) rfl rfl rfl ?_
        refine jp (pl (ht rfl) (by kernel_rfl)) rfl rfl rfl ?_
        refine jp (pa (ht rfl)) rfl rfl rfl ?_
        refine jp (pa (ht rfl)) rfl rfl rfl ?_
        refine j_end ?_
        refine rs ?_
        obtain ⟨r7, e10, h⟩ := bind_some h
        obtain ⟨r8, e11, h⟩ := bind_some h
        refine run_keep (H' := [box b3 161 (prod (exv v6) bl) ((), y2), own 5 u8 v6 y3]) (.cons .here <| .cons .here <| .nil) ?_
        refine run_drawL (n := 11) (H := [box b3 161 (prod (exv v6) bl) ((), y2), own 5 u8 v6 y3]) (Ls := [⟨[], [(10, ⟨Nat, fun (b4 : Nat) => [box b4 23 R_api_Hash (Vector.replicate 32 (0#8))], fun (b4 : Nat) => [(18, val (.pointer (some ⟨b4, 0, none⟩)))]⟩)]⟩]) (by kernel_rfl) (by kernel_rfl) (by kernel_rfl) (by kernel_rfl) (by kernel_rfl) rfl (.read rfl (.plain rfl (pl (ht rfl) (by kernel_rfl))) <| .read rfl (.plain rfl (pm (ht rfl))) <| .read rfl (.plain rfl (pm (ht rfl))) <| .read rfl (.plain rfl (pl (ht rfl) (by kernel_rfl))) <| .read rfl (.plain rfl (pm (ht rfl))) <| .read rfl (.plain rfl (pm (ht rfl))) <| .read rfl (.plain rfl (pl (ht rfl) (by kernel_rfl))) <| .read rfl (.plain rfl (pj_call (hc (ht rfl) <| hc (ht rfl) <| hc (ht rfl) <| hc (ht rfl) <| hasL_nil) (by kernel_rfl) (c_lmots_secret hg1 hg2 e10))) <| .read rfl (.plain rfl (pm (ht rfl))) <| .read rfl (.plain rfl (pj_call (hc (ht rfl) <| hc (ht rfl) <| hc (ht rfl) <| hc (ht rfl) <| hc has_i64 <| hc (ht rfl) <| hasL_nil) (by kernel_rfl) (c_lmots_chain hg1 hg2 e11))) <| .step 0 rfl .here (.inl rfl) (fun i => ⟨_, _, fun j => j, (w_alloc (x := (Vector.replicate 32 (0#8))) (R := R_api_Hash) (zero_vec 32 zero_un) (by kernel_rfl) rfl), fun _ => rfl, slotAny, dst1⟩) <| .nil) ?_
        rintro b4
        refine j_to (Γ' := [(2, u32.slot p_q), (6, ptrTo R_api_ID p_id), (8, ptrTo R_api_Hash p_seed), (15, val (.pointer (some ⟨b3, 0, none⟩))), (18, val (.pointer (some ⟨b4, 0, none⟩))), (46, (sl i64).slot r6), (47, i64.slot (r6.length : Int)), (48, i64.slot y1), (62, R_api_Hash.slot r8)]) (H' := [box b4 23 R_api_Hash (Vector.replicate 32 (0#8)), box b3 161 (prod (exv v6) bl) ((), y2), own 5 u8 v6 y3]) (.cons (.of_lk rfl) <| .cons (.of_lk rfl) <| .cons (.of_lk rfl) <| .cons (.of_lk rfl) <| .cons (.of_lk rfl) <| .cons (.of_lk rfl) <| .cons (.of_lk rfl) <| .cons (.of_lk rfl) <| .cons (.of_lk rfl) <| .nil) (.cons .here <| .cons .here <| .cons .here <| .nil) ?_
        refine j_store_boxx (r' := r8) (ht rfl) (ht rfl) .here (Path.all R_api_Hash) (by kernel_rfl) rfl ?_
        refine j_freezeTo (t := 18) .here (.of_lk rfl) ?_
        refine j_end ?_
        refine rt ?_
        refine jp (pm (ht rfl)) rfl rfl rfl ?_
        refine jp (pj_slice_toF (ht rfl) (by decide) (by kernel_rfl)) rfl rfl rfl ?_
        obtain ⟨r9, e12, h⟩ := bind_some h
        refine j_call (hc (ht rfl) <| hc (ht rfl) <| hasL_nil) (by kernel_rfl) (c_wire_Writer_Plain e12) (.cons .here <| .cons .here <| .nil) rfl fun v7 => ?_
        refine j_end ?_
        refine run_endblock ?_
        refine rt ?_
        refine jp (pj_iadd (ht rfl) has_i64) rfl rfl rfl ?_
        refine jp (pm (ht rfl)) rfl rfl rfl ?_
        refine j_end ?_
        obtain rfl := oi h
        exact run_next v7 (.cons (.of_lk rfl) <| .cons (.of_lk rfl) <| .cons (.of_lk rfl) <| .cons (.of_lk rfl) <| .cons (.of_lk rfl) <| .cons (.of_lk rfl) <| .cons (.of_lk rfl) <| .nil) (.cons .here <| .cons .here <| .nil)
      · replace h := bf e8 h
        obtain rfl := oi h
        exact run_brk v6 (.cons (.of_lk rfl) <| .cons (.of_lk rfl) <| .cons (.of_lk rfl) <| .cons (.of_lk rfl) <| .cons (.of_lk rfl) <| .cons (.of_lk rfl) <| .cons (.of_lk rfl) <| .nil) (.cons .here <| .cons .here <| .nil)
    · rintro v8
      show Run _ _ _ [(2, u32.slot p_q), (6, ptrTo R_api_ID p_id), (8, ptrTo R_api_Hash p_seed), (15, val (.pointer (some ⟨b3, 0, none⟩))), (46, (sl i64).slot r6), (47, i64.slot (r6.length : Int)), (48, i64.slot y4)] [box b3 161 (prod (exv v8) bl) ((), y5), own 5 u8 v8 y6]
      refine run_to (Γ' := [(15, val (.pointer (some ⟨b3, 0, none⟩)))]) (H' := [box b3 161 (prod (exv v8) bl) ((), y5), own 5 u8 v8 y6]) (.cons (.of_lk rfl) <| .nil) (.cons .here <| .cons .here <| .nil) ?_
      refine rs ?_
      refine rt ?_
      refine jp (pm (ht rfl)) rfl rfl rfl ?_
      obtain ⟨r10, e14, h⟩ := bind_some h
      refine j_call (hc (ht rfl) <| hasL_nil) (by kernel_rfl) (c_wire_Writer_Out e14) (.cons .here <| .cons .here <| .nil) rfl fun ⟨v9, v10⟩ => ?_
      refine jp (pj_extract (ht rfl) rfl) rfl rfl rfl ?_
      refine jp (pj_extract (ht rfl) rfl) rfl rfl rfl ?_
      refine jp (pa (ht rfl)) rfl rfl rfl ?_
      refine jp (pa (ht rfl)) rfl rfl rfl ?_
      refine j_end ?_
      obtain rfl := oi h
      exact run_ret fun a w hst => q_retN hst rfl (.cons (.tmp rfl) <| .cons (.tmp rfl) <| .nil) rfl v10 (fun _ _ h => h) (.cons (.next (.next .here)) <| .nil)
set_option maxRecDepth 100000 in
set_option maxHeartbeats 4000000 in
theorem c_lms_Tree_Sign {G : GP} (hg0 : HG0 G) (hg1 : HG1 G) (hg2 : HG2 G) {p_t : Option T_lms_Tree} {p_q : Int} {p_message : List (BitVec 8)} {r : (List (BitVec 8)) × Int} (h : lms_Tree_Sign p_t p_q p_message = some r) : Ctr Tryz.prog G 89 [(ptr R_lms_Tree).slot p_t, i64.slot p_q, (sl u8).slot p_message] [] (fun (u0 : Value) => tup [ov u0, i64.slot r.2]) (fun (u0 : Value) => [own 5 u8 u0 r.1]) := by
  unfold lms_Tree_Sign at h
  refine ctr_of_run Tryz.func89 rfl 84 rfl rfl fun m0 w0 b0 => ?_
  show Run _ _ _ [(0, (ptr R_lms_Tree).slot p_t), (1, i64.slot p_q), (2, (sl u8).slot p_message)] _
  refine rs ?_
  refine rt ?_
  refine j_assign_nil (T := 5) u8 rfl fun v1 => ?_
  refine jp (pa has_i64) rfl rfl rfl ?_
  refine j_end ?_
  refine rs ?_
  refine run_block ?_
  refine rs ?_
  refine rt ?_
  refine jp (pm (ht rfl)) rfl rfl rfl ?_
  refine jp (pj_eq_nil (E := 153) (by kernel_rfl) (ht rfl)) rfl rfl rfl ?_
  refine jp (pa (ht rfl)) rfl rfl rfl ?_
  refine j_end ?_
  refine run_cond (ht rfl) (fun e1 => ?_) (fun e1 => ?_)
  · replace h := bt e1 h
    refine rs ?_
    refine rt ?_
    refine j_assign_nil (T := 5) u8 rfl fun v2 => ?_
    refine jp (pa has_i64) rfl rfl rfl ?_
    refine j_end ?_
    obtain rfl := oi h
    exact run_ret fun a w hst => q_retN hst rfl (.cons (.tmp rfl) <| .cons (.tmp rfl) <| .nil) rfl v2 (fun _ _ h => h) (.cons .here <| .nil)
  · replace h := bf e1 h
    refine rs ?_
    refine rt ?_
    refine jp (pm (ht rfl)) rfl rfl rfl ?_
    refine jp (pj_ilss (ht rfl) has_i64) rfl rfl rfl ?_
    refine jp (pm (ht rfl)) rfl rfl rfl ?_
    obtain ⟨y1, e3, h⟩ := bind_some h
    refine j_joinx (ι := Unit) (Γ' := fun _ => [(0, (ptr R_lms_Tree).slot p_t), (1, i64.slot p_q), (2, (sl u8).slot p_message), (23, bl.slot y1)]) (H' := fun _ => []) 5 ?_ fun J => ?_
    · intro _
      clear e3
      show OpsJ _ _ _ [(0, (ptr R_lms_Tree).slot p_t), (1, i64.slot p_q), (2, (sl u8).slot p_message), (23, bl.slot y1)] [] _
      refine jp (pa (ht rfl)) rfl rfl rfl ?_
      refine j_end ?_
      refine run_cond (ht rfl) (fun e5 => ?_) (fun e5 => ?_)
      · replace h := bt e5 h
        refine rs ?_
        refine rt ?_
        refine j_assign_nil (T := 5) u8 rfl fun v3 => ?_
        refine jp (pa has_i64) rfl rfl rfl ?_
        refine j_end ?_
        obtain rfl := oi h
        exact run_ret fun a w hst => q_retN hst rfl (.cons (.tmp rfl) <| .cons (.tmp rfl) <| .nil) rfl v3 (fun _ _ h => h) (.cons .here <| .nil)
      · replace h := bf e5 h
        refine run_skip ?_
        refine run_endblock ?_
        refine rs ?_
        obtain ⟨x1, e6, h⟩ := bind_some h
        obtain ⟨x2, e7, h⟩ := bind_some h
        obtain ⟨x3, e8, h⟩ := bind_some h
        obtain ⟨r2, e9, h⟩ := bind_some h
        refine run_draw (n := 20) (by kernel_rfl) (by kernel_rfl) (by kernel_rfl) (by kernel_rfl) (.read (.plain rfl (pm (ht rfl))) <| .read (.plain rfl (pj_nilCheck_some (ht rfl) e6)) <| .read (.plain rfl (pj_field_to (ht rfl) (Path.then (Path.snd i64 (prod i64 (prod R_api_ID (prod R_api_Hash (sl R_api_Hash))))) (Path.fst i64 (prod R_api_ID (prod R_api_Hash (sl R_api_Hash))))) (by kernel_rfl))) <| .read (.plain rfl (pl (ht rfl) (by kernel_rfl))) <| .read (.plain rfl (pm (ht rfl))) <| .read (.plain rfl (pj_nilCheck_some (ht rfl) e7)) <| .read (.plain rfl (pj_field_to (ht rfl) (Path.then (Path.snd i64 (prod i64 (prod R_api_ID (prod R_api_Hash (sl R_api_Hash))))) (Path.then (Path.snd i64 (prod R_api_ID (prod R_api_Hash (sl R_api_Hash)))) (Path.fst R_api_ID (prod R_api_Hash (sl R_api_Hash))))) (by kernel_rfl))) <| .read (.plain rfl (pl (ht rfl) (by kernel_rfl))) <| .read (.plain rfl (pm (ht rfl))) <| .read (.plain rfl (pj_conv_un (k := .u32) (b := 32) rfl rfl (by kernel_rfl) (ht rfl) isInt_i64)) <| .read (.plain rfl (pm (ht rfl))) <| .read (.plain rfl (pj_nilCheck_some (ht rfl) e8)) <| .read (.plain rfl (pj_field_to (ht rfl) (Path.then (Path.snd i64 (prod i64 (prod R_api_ID (prod R_api_Hash (sl R_api_Hash))))) (Path.then (Path.snd i64 (prod R_api_ID (prod R_api_Hash (sl R_api_Hash)))) (Path.then (Path.snd R_api_ID (prod R_api_Hash (sl R_api_Hash))) (Path.fst R_api_Hash (sl R_api_Hash))))) (by kernel_rfl))) <| .read (.plain rfl (pl (ht rfl) (by kernel_rfl))) <| .read (.plain rfl (pm (ht rfl))) <| .read (.plain rfl (pj_call (hc (ht rfl) <| hc (ht rfl) <| hc (ht rfl) <| hc (ht rfl) <| hc (ht rfl) <| hasL_nil) (by kernel_rfl) (Ctr.froze2 (c_lmots_Sign hg0 hg1 hg2 e9)))) <| .read (.plain rfl (pm (ht rfl))) <| .read (.plain rfl (pj_extract (ht rfl) rfl)) <| .read (.plain rfl (pj_extract (ht rfl) rfl)) <| .read (.plain rfl (pa (ht rfl))) <| .nil) (j_to (Γ' := [(0, (ptr R_lms_Tree).slot p_t), (1, i64.slot p_q), (8, (sl u8).slot r2.1), (42, i64.slot r2.2)]) (H' := []) (.cons (.of_lk rfl) <| .cons (.of_lk rfl) <| .cons (.of_lk rfl) <| .cons (.of_lk rfl) <| .nil) (.nil) ?_)
        refine jp (pa (ht rfl)) rfl rfl rfl ?_
        refine j_end ?_
        refine rs ?_
        refine rs ?_
        refine rt ?_
        refine jp (pm (ht rfl)) rfl rfl rfl ?_
        refine jp (pj_ineq (ht rfl) has_i64) rfl rfl rfl ?_
        refine j_end ?_
        refine run_cond (ht rfl) (fun e10 => ?_) (fun e10 => ?_)
        · replace h := bt e10 h
          refine rs ?_
          refine rt ?_
          refine jp (pm (ht rfl)) rfl rfl rfl ?_
          refine j_assign_nil (T := 5) u8 rfl fun v4 => ?_
          refine jp (pa (ht rfl)) rfl rfl rfl ?_
          refine j_end ?_
          obtain rfl := oi h
          exact run_ret fun a w hst => q_retN hst rfl (.cons (.tmp rfl) <| .cons (.tmp rfl) <| .nil) rfl v4 (fun _ _ h => h) (.cons .here <| .nil)
        · replace h := bf e10 h
          refine run_skip ?_
          refine rs ?_
          refine rt ?_
          refine jp (pj_build (R := prod (exv (.slice none 0 0)) bl) (zero_prod zero_exv zero_bl) (by kernel_rfl) (by kernel_rfl) rfl .nil) rfl rfl rfl ?_
          refine j_box_w (T1 := 5) u8 (ht rfl) rfl fun b1 v5 => ?_
          refine jp (pa (ht rfl)) rfl rfl rfl ?_
          refine j_end ?_
          refine rs ?_
          refine rt ?_
          refine jp (pm (ht rfl)) rfl rfl rfl ?_
          refine jp (pm (ht rfl)) rfl rfl rfl ?_
          refine jp (pj_conv_un (k := .u32) (b := 32) rfl rfl (by kernel_rfl) (ht rfl) isInt_i64) rfl rfl rfl ?_
          obtain ⟨r3, e11, h⟩ := bind_some h
          refine j_call (hc (ht rfl) <| hc (ht rfl) <| hasL_nil) (by kernel_rfl) (c_wire_Writer_U32 e11) (.cons (.next .here) <| .cons .here <| .nil) rfl fun v6 => ?_
          refine j_end ?_
          refine rs ?_
          refine rt ?_
          refine jp (pm (ht rfl)) rfl rfl rfl ?_
          refine jp (pm (ht rfl)) rfl rfl rfl ?_
          obtain ⟨r4, e12, h⟩ := bind_some h
          refine j_call (hc (ht rfl) <| hc (ht rfl) <| hasL_nil) (by kernel_rfl) (c_wire_Writer_Plain e12) (.cons .here <| .cons .here <| .nil) rfl fun v7 => ?_
          refine j_end ?_
          refine rs ?_
          refine rt ?_
          refine jp (pm (ht rfl)) rfl rfl rfl ?_
          refine jp (pm (ht rfl)) rfl rfl rfl ?_
          obtain ⟨x4, e13, h⟩ := bind_some h
          refine jp (pj_nilCheck_some (ht rfl) e13) rfl rfl rfl ?_
          refine jp (pj_field_to (ht rfl) (Path.fst i64 (prod i64 (prod R_api_ID (prod R_api_Hash (sl R_api_Hash))))) (by kernel_rfl)) rfl rfl rfl ?_
          refine jp (pl (ht rfl) (by kernel_rfl)) rfl rfl rfl ?_
          refine jp (pj_conv_un (k := .u32) (b := 32) rfl rfl (by kernel_rfl) (ht rfl) isInt_i64) rfl rfl rfl ?_
          obtain ⟨r5, e14, h⟩ := bind_some h
          refine j_call (hc (ht rfl) <| hc (ht rfl) <| hasL_nil) (by kernel_rfl) (c_wire_Writer_U32 e14) (.cons .here <| .cons .here <| .nil) rfl fun v8 => ?_
          refine j_end ?_
          refine rs ?_
          refine rs ?_
          refine rt ?_
          refine jp (pm (ht rfl)) rfl rfl rfl ?_
          obtain ⟨r6, e15, h⟩ := bind_some h
          refine jp (pj_call (hc (ht rfl) <| hasL_nil) (by kernel_rfl) (c_lms_Tree_Keys e15)) rfl rfl rfl ?_
          refine jp (pm (ht rfl)) rfl rfl rfl ?_
          refine jp (pj_iadd (ht rfl) (ht rfl)) rfl rfl rfl ?_
          refine jp (pa (ht rfl)) rfl rfl rfl ?_
          refine j_end ?_
          obtain ⟨⟨y5, y6, y7⟩, e20, h⟩ := bind_some h
          refine run_loopS (Γi := fun (i : Value) (s : Int × Bool × (List (BitVec 8))) => [(0, (ptr R_lms_Tree).slot p_t), (10, val (.pointer (some ⟨b1, 0, none⟩))), (11, i64.slot s.1)]) (Hi := fun (i : Value) (s : Int × Bool × (List (BitVec 8))) => [box b1 161 (prod (exv i) bl) ((), s.2.1), own 5 u8 i s.2.2]) e20 v8 (fun a w hst => (hst.sub (.cons (.of_lk rfl) <| .cons (.of_lk rfl) <| .cons (.of_lk rfl) <| .nil)).keep (.cons .here <| .cons .here <| .nil)) ?_ ?_
          · clear h e20
            rintro v9 ⟨y2, y3, y4⟩ lr h
            change lms_Tree_Sign_L1 p_t y2 y3 y4 = some _ at h
            show Run _ _ _ [(0, (ptr R_lms_Tree).slot p_t), (10, val (.pointer (some ⟨b1, 0, none⟩))), (11, i64.slot y2)] [box b1 161 (prod (exv v9) bl) ((), y3), own 5 u8 v9 y4]
            unfold lms_Tree_Sign_L1 at h
            refine rs ?_
            refine rs ?_
            refine rt ?_
            refine jp (pm (ht rfl)) rfl rfl rfl ?_
            refine jp (pj_igtr (ht rfl) has_i64) rfl rfl rfl ?_
            refine j_end ?_
            refine run_cond (ht rfl) (fun e16 => ?_) (fun e16 => ?_)
            · replace h := bt e16 h
              refine run_skip ?_
              refine rs ?_
              refine run_block ?_
              refine rt ?_
              refine jp (pm (ht rfl)) rfl rfl rfl ?_
              refine jp (pm (ht rfl)) rfl rfl rfl ?_
              obtain ⟨x5, e17, h⟩ := bind_some h
              refine jp (pj_nilCheck_some (ht rfl) e17) rfl rfl rfl ?_
              refine jp (pj_field_to (ht rfl) (Path.then (Path.snd i64 (prod i64 (prod R_api_ID (prod R_api_Hash (sl R_api_Hash))))) (Path.then (Path.snd i64 (prod R_api_ID (prod R_api_Hash (sl R_api_Hash)))) (Path.then (Path.snd R_api_ID (prod R_api_Hash (sl R_api_Hash))) (Path.snd R_api_Hash (sl R_api_Hash))))) (by kernel_rfl)) rfl rfl rfl ?_
              refine jp (pl (ht rfl) (by kernel_rfl)) rfl rfl rfl ?_
              refine jp (pm (ht rfl)) rfl rfl rfl ?_
              refine jp (pj_ixor (ht rfl) has_i64) rfl rfl rfl ?_
              obtain ⟨x6, e18, h⟩ := bind_some h
              refine jp (pj_index_slx (ht rfl) (ht rfl) isInt_i64 e18 (by kernel_rfl)) rfl rfl rfl ?_
              refine jp (pj_slice_toF (ht rfl) (by decide) (by kernel_rfl)) rfl rfl rfl ?_
              obtain ⟨r7, e19, h⟩ := bind_some h
              refine j_call (hc (ht rfl) <| hc (ht rfl) <| hasL_nil) (by kernel_rfl) (c_wire_Writer_Plain e19) (.cons .here <| .cons .here <| .nil) rfl fun v10 => ?_
              refine j_end ?_
              refine run_endblock ?_
              refine rt ?_
              refine jp (pm (ht rfl)) rfl rfl rfl ?_
              refine jp (pj_iquo (ht rfl) has_i64 (by decide)) rfl rfl rfl ?_
              refine jp (pa (ht rfl)) rfl rfl rfl ?_
              refine j_end ?_
              obtain rfl := oi h
              exact run_next v10 (.cons (.of_lk rfl) <| .cons (.of_lk rfl) <| .cons (.of_lk rfl) <| .nil) (.cons .here <| .cons .here <| .nil)
            · replace h := bf e16 h
              obtain rfl := oi h
              exact run_brk v9 (.cons (.of_lk rfl) <| .cons (.of_lk rfl) <| .cons (.of_lk rfl) <| .nil) (.cons .here <| .cons .here <| .nil)
          · rintro v11
            show Run _ _ _ [(0, (ptr R_lms_Tree).slot p_t), (10, val (.pointer (some ⟨b1, 0, none⟩))), (11, i64.slot y5)] [box b1 161 (prod (exv v11) bl) ((), y6), own 5 u8 v11 y7]
            refine run_to (Γ' := [(10, val (.pointer (some ⟨b1, 0, none⟩)))]) (H' := [box b1 161 (prod (exv v11) bl) ((), y6), own 5 u8 v11 y7]) (.cons (.of_lk rfl) <| .nil) (.cons .here <| .cons .here <| .nil) ?_
            refine rs ?_
            refine rt ?_
            refine jp (pm (ht rfl)) rfl rfl rfl ?_
            obtain ⟨r8, e21, h⟩ := bind_some h
            refine j_call (hc (ht rfl) <| hasL_nil) (by kernel_rfl) (c_wire_Writer_Out e21) (.cons .here <| .cons .here <| .nil) rfl fun ⟨v12, v13⟩ => ?_
            refine jp (pj_extract (ht rfl) rfl) rfl rfl rfl ?_
            refine jp (pj_extract (ht rfl) rfl) rfl rfl rfl ?_
            refine jp (pa (ht rfl)) rfl rfl rfl ?_
            refine jp (pa (ht rfl)) rfl rfl rfl ?_
            refine j_end ?_
            obtain rfl := oi h
            exact run_ret fun a w hst => q_retN hst rfl (.cons (.tmp rfl) <| .cons (.tmp rfl) <| .nil) rfl v13 (fun _ _ h => h) (.cons (.next (.next .here)) <| .nil)
    · rcases bool_tf (decide (p_q < (0 : Int))) with e2 | e2
      · replace e3 := bt e2 e3
        refine j_guard_no2 (j := 2) (want := false) rfl rfl rfl rfl (bl_isx e2) rfl rfl rfl ?_
        refine j_guard_no2 (j := 2) (want := false) rfl rfl rfl rfl (bl_isx e2) rfl rfl rfl ?_
        refine j_guard_no2 (j := 2) (want := false) rfl rfl rfl rfl (bl_isx e2) rfl rfl rfl ?_
        refine j_guard_no2 (j := 2) (want := false) rfl rfl rfl rfl (bl_isx e2) rfl rfl rfl ?_
        refine jp (PJ.eqv (R := bl) (pj_pick (t := any) (ht rfl) (fun _ => has_bl) (fun he => absurd (e2.symm.trans he) (by decide))) (oi e3)) rfl rfl rfl ?_
        exact j_to (.cons (.of_lk rfl) <| .cons (.of_lk rfl) <| .cons (.of_lk rfl) <| .cons (.of_lk rfl) <| .nil) (.nil) (J ())
      · replace e3 := bf e2 e3
        refine jy (pm (ht rfl)) rfl rfl rfl rfl (bl_isx e2) rfl rfl ?_
        refine jy (pm (ht rfl)) rfl rfl rfl rfl (bl_isx e2) rfl rfl ?_
        obtain ⟨r1, e4, e3⟩ := bind_some e3
        refine jy (pj_call (hc (ht rfl) <| hasL_nil) (by kernel_rfl) (c_lms_Tree_Keys e4)) rfl rfl rfl rfl (bl_isx e2) rfl rfl ?_
        refine jy (pj_igeq (ht rfl) (ht rfl)) rfl rfl rfl rfl (bl_isx e2) rfl rfl ?_
        refine jp (PJ.eqv (R := bl) (pj_pick (t := any) (ht rfl) (fun he => absurd (e2.symm.trans he) (by decide)) (fun _ => (ht rfl))) (oi e3)) rfl rfl rfl ?_
        exact j_to (.cons (.of_lk rfl) <| .cons (.of_lk rfl) <| .cons (.of_lk rfl) <| .cons (.of_lk rfl) <| .nil) (.nil) (J ())
set_option maxRecDepth 100000 in
set_option maxHeartbeats 4000000 in
theorem c_hss_Signer_Sign {G : GP} (hg0 : HG0 G) (hg1 : HG1 G) (hg2 : HG2 G) {p_s : Int × Int × T_api_Hash × (Option T_lms_Tree) × (Option T_lms_Tree) × Int} {p_n : Int} {p_message : List (BitVec 8)} {b_s : Nat} {r : (Int × Int × T_api_Hash × (Option T_lms_Tree) × (Option T_lms_Tree) × Int) × (List (BitVec 8)) × Int} (h : hss_Signer_Sign p_s p_n p_message = some r) : Ctr Tryz.prog G 46 [val (.pointer (some ⟨b_s, 0, none⟩)), i64.slot p_n, (sl u8).slot p_message] [box b_s 102 (prod i64 (prod i64 (prod R_api_Hash (prod (ptr R_lms_Tree) (prod (ptr R_lms_Tree) i64))))) (p_s.1, p_s.2.1, p_s.2.2.1, p_s.2.2.2.1, p_s.2.2.2.2.1, p_s.2.2.2.2.2)] (fun (u0 : Value) => tup [ov u0, i64.slot r.2.2]) (fun (u0 : Value) => [box b_s 102 (prod i64 (prod i64 (prod R_api_Hash (prod (ptr R_lms_Tree) (prod (ptr R_lms_Tree) i64))))) (r.1.1, r.1.2.1, r.1.2.2.1, r.1.2.2.2.1, r.1.2.2.2.2.1, r.1.2.2.2.2.2), own 5 u8 u0 r.2.1]) := by
  unfold hss_Signer_Sign at h
  refine ctr_of_run Tryz.func46 rfl 81 rfl rfl fun m0 w0 b0 => ?_
  show Run _ _ _ [(0, val (.pointer (some ⟨b_s, 0, none⟩))), (1, i64.slot p_n), (2, (sl u8).slot p_message)] _
  refine rs ?_
  refine rt ?_
  refine j_assign_nil (T := 5) u8 rfl fun v1 => ?_
  refine jp (pa has_i64) rfl rfl rfl ?_
  refine j_end ?_
  refine rs ?_
  refine run_block ?_
  refine rs ?_
  refine rt ?_
  refine jp (pm (ht rfl)) rfl rfl rfl ?_
  refine jp (pj_eq_nil_val (E := 102) (by kernel_rfl) (ht rfl)) rfl rfl rfl ?_
  refine jp (pa (ht rfl)) rfl rfl rfl ?_
  refine j_end ?_
  refine run_cond_f (ht rfl) rfl ?_
  refine rs ?_
  refine rt ?_
  refine jp (pm (ht rfl)) rfl rfl rfl ?_
  refine jp (pj_ilss (ht rfl) has_i64) rfl rfl rfl ?_
  refine jp (pm (ht rfl)) rfl rfl rfl ?_
  obtain ⟨y1, e3, h⟩ := bind_some h
  refine j_joinx (ι := Unit) (Γ' := fun _ => [(0, val (.pointer (some ⟨b_s, 0, none⟩))), (1, i64.slot p_n), (2, (sl u8).slot p_message), (26, bl.slot y1)]) (H' := fun _ => [box b_s 102 (prod i64 (prod i64 (prod R_api_Hash (prod (ptr R_lms_Tree) (prod (ptr R_lms_Tree) i64))))) (p_s.1, p_s.2.1, p_s.2.2.1, p_s.2.2.2.1, p_s.2.2.2.2.1, p_s.2.2.2.2.2)]) 5 ?_ fun J => ?_
  · intro _
    clear e3
    show OpsJ _ _ _ [(0, val (.pointer (some ⟨b_s, 0, none⟩))), (1, i64.slot p_n), (2, (sl u8).slot p_message), (26, bl.slot y1)] [box b_s 102 (prod i64 (prod i64 (prod R_api_Hash (prod (ptr R_lms_Tree) (prod (ptr R_lms_Tree) i64))))) (p_s.1, p_s.2.1, p_s.2.2.1, p_s.2.2.2.1, p_s.2.2.2.2.1, p_s.2.2.2.2.2)] _
    refine jp (pa (ht rfl)) rfl rfl rfl ?_
    refine j_end ?_
    refine run_cond (ht rfl) (fun e5 => ?_) (fun e5 => ?_)
    · replace h := bt e5 h
      refine rs ?_
      refine rt ?_
      refine j_assign_nil (T := 5) u8 rfl fun v2 => ?_
      refine jp (pa has_i64) rfl rfl rfl ?_
      refine j_end ?_
      obtain rfl := oi h
      exact run_ret fun a w hst => q_retN hst rfl (.cons (.tmp rfl) <| .cons (.tmp rfl) <| .nil) rfl v2 (fun _ _ h => h) (.cons (.next .here) <| .cons .here <| .nil)
    · replace h := bf e5 h
      refine run_skip ?_
      refine run_endblock ?_
      refine rs ?_
      obtain ⟨e6, h⟩ := grd_some h
      obtain ⟨e7, h⟩ := grd_some h
      refine run_draw (n := 15) (by kernel_rfl) (by kernel_rfl) (by kernel_rfl) (by kernel_rfl) (.read (.plain rfl (pm (ht rfl))) <| .read (.plain rfl (pm (ht rfl))) <| .read (.plain rfl (pj_nilCheck_ptr (ht rfl))) <| .read (.plain rfl (pj_field_ptr (off := 0) (ht rfl) (by kernel_rfl))) <| .read (.plain rfl (pj_load_box (ht rfl) .here (Path.then (Path.all (prod i64 (prod i64 (prod R_api_Hash (prod (ptr R_lms_Tree) (prod (ptr R_lms_Tree) i64)))))) (Path.fst i64 (prod i64 (prod R_api_Hash (prod (ptr R_lms_Tree) (prod (ptr R_lms_Tree) i64)))))) (by kernel_rfl))) <| .read (.plain rfl (pj_ishr (ht rfl) (ht rfl) isInt_i64 e6)) <| .read (.plain rfl (pm (ht rfl))) <| .read (.plain rfl (pm (ht rfl))) <| .read (.plain rfl (pj_nilCheck_ptr (ht rfl))) <| .read (.plain rfl (pj_field_ptr (off := 0) (ht rfl) (by kernel_rfl))) <| .read (.plain rfl (pj_load_box (ht rfl) .here (Path.then (Path.all (prod i64 (prod i64 (prod R_api_Hash (prod (ptr R_lms_Tree) (prod (ptr R_lms_Tree) i64)))))) (Path.fst i64 (prod i64 (prod R_api_Hash (prod (ptr R_lms_Tree) (prod (ptr R_lms_Tree) i64)))))) (by kernel_rfl))) <| .read (.plain rfl (pj_ishl has_i64 (ht rfl) isInt_i64 e7)) <| .read (.plain rfl (pj_isub (ht rfl) has_i64)) <| .read (.plain rfl (pj_iand (ht rfl) (ht rfl))) <| .read (.plain rfl (pa (ht rfl))) <| .nil) (j_to (Γ' := [(0, val (.pointer (some ⟨b_s, 0, none⟩))), (2, (sl u8).slot p_message), (8, i64.slot (ishr p_n p_s.1)), (40, i64.slot (iand p_n (w64 ((ishl (1 : Int) p_s.1) - (1 : Int)))))]) (H' := [box b_s 102 (prod i64 (prod i64 (prod R_api_Hash (prod (ptr R_lms_Tree) (prod (ptr R_lms_Tree) i64))))) (p_s.1, p_s.2.1, p_s.2.2.1, p_s.2.2.2.1, p_s.2.2.2.2.1, p_s.2.2.2.2.2)]) (.cons (.of_lk rfl) <| .cons (.of_lk rfl) <| .cons (.of_lk rfl) <| .cons (.of_lk rfl) <| .nil) (.cons .here <| .nil) ?_)
      obtain ⟨x1, e8, h⟩ := bind_some h
      refine jp (PJ.eqv (pa (ht rfl)) (oi e8)) rfl rfl rfl ?_
      refine j_end ?_
      refine rs ?_
      refine rt ?_
      refine jp (pm (ht rfl)) rfl rfl rfl ?_
      refine jp (pm (ht rfl)) rfl rfl rfl ?_
      obtain ⟨r2, e9, h⟩ := bind_some h
      refine j_call (hc (ht rfl) <| hc (ht rfl) <| hasL_nil) (by kernel_rfl) (c_hss_Signer_tree hg0 hg1 hg2 e9) (.cons .here <| .nil) rfl fun _ => ?_
      refine jp (pm (ht rfl)) rfl rfl rfl ?_
      refine jp (pj_extract (ht rfl) rfl) rfl rfl rfl ?_
      refine jp (pj_extract (ht rfl) rfl) rfl rfl rfl ?_
      refine jp (pa (ht rfl)) rfl rfl rfl ?_
      refine jp (pa (ht rfl)) rfl rfl rfl ?_
      refine j_end ?_
      refine rs ?_
      refine rs ?_
      refine rt ?_
      refine jp (pm (ht rfl)) rfl rfl rfl ?_
      refine jp (pj_ineq (ht rfl) has_i64) rfl rfl rfl ?_
      refine j_end ?_
      refine run_cond (ht rfl) (fun e10 => ?_) (fun e10 => ?_)
      · replace h := bt e10 h
        refine rs ?_
        refine rt ?_
        refine jp (pm (ht rfl)) rfl rfl rfl ?_
        refine j_assign_nil (T := 5) u8 rfl fun v3 => ?_
        refine jp (pa (ht rfl)) rfl rfl rfl ?_
        refine j_end ?_
        obtain rfl := oi h
        exact run_ret fun a w hst => q_retN hst rfl (.cons (.tmp rfl) <| .cons (.tmp rfl) <| .nil) rfl v3 (fun _ _ h => h) (.cons (.next .here) <| .cons .here <| .nil)
      · replace h := bf e10 h
        refine run_skip ?_
        refine rs ?_
        refine rt ?_
        refine jp (pm (ht rfl)) rfl rfl rfl ?_
        obtain ⟨r3, e11, h⟩ := bind_some h
        refine jp (pj_call (hc (ht rfl) <| hasL_nil) (by kernel_rfl) (Ctr.froze (c_lms_Tree_Public e11))) rfl rfl rfl ?_
        refine jp (pa (ht rfl)) rfl rfl rfl ?_
        refine j_end ?_
        refine rs ?_
        refine rt ?_
        refine jp (pm (ht rfl)) rfl rfl rfl ?_
        refine jp (pj_nilCheck_ptr (ht rfl)) rfl rfl rfl ?_
        refine jp (pj_field_ptr (off := 34) (ht rfl) (by kernel_rfl)) rfl rfl rfl ?_
        refine jp (pj_load_box (ht rfl) .here (Path.then (Path.all (prod i64 (prod i64 (prod R_api_Hash (prod (ptr R_lms_Tree) (prod (ptr R_lms_Tree) i64)))))) (Path.then (Path.snd i64 (prod i64 (prod R_api_Hash (prod (ptr R_lms_Tree) (prod (ptr R_lms_Tree) i64))))) (Path.then (Path.snd i64 (prod R_api_Hash (prod (ptr R_lms_Tree) (prod (ptr R_lms_Tree) i64)))) (Path.then (Path.snd R_api_Hash (prod (ptr R_lms_Tree) (prod (ptr R_lms_Tree) i64))) (Path.fst (ptr R_lms_Tree) (prod (ptr R_lms_Tree) i64)))))) (by kernel_rfl)) rfl rfl rfl ?_
        refine jp (pm (ht rfl)) rfl rfl rfl ?_
        refine jp (pm (ht rfl)) rfl rfl rfl ?_
        obtain ⟨r4, e12, h⟩ := bind_some h
        refine jp (pj_call (hc (ht rfl) <| hc (ht rfl) <| hc (ht rfl) <| hasL_nil) (by kernel_rfl) (Ctr.froze2 (c_lms_Tree_Sign hg0 hg1 hg2 e12))) rfl rfl rfl ?_
        refine jp (pm (ht rfl)) rfl rfl rfl ?_
        refine jp (pj_extract (ht rfl) rfl) rfl rfl rfl ?_
        refine jp (pj_extract (ht rfl) rfl) rfl rfl rfl ?_
        refine jp (pa (ht rfl)) rfl rfl rfl ?_
        refine jp (pa (ht rfl)) rfl rfl rfl ?_
        refine j_end ?_
        refine rs ?_
        refine rs ?_
        refine rt ?_
        refine jp (pm (ht rfl)) rfl rfl rfl ?_
        refine jp (pj_ineq (ht rfl) has_i64) rfl rfl rfl ?_
        refine j_end ?_
        refine run_cond (ht rfl) (fun e13 => ?_) (fun e13 => ?_)
        · replace h := bt e13 h
          refine rs ?_
          refine rt ?_
          refine jp (pm (ht rfl)) rfl rfl rfl ?_
          refine j_assign_nil (T := 5) u8 rfl fun v4 => ?_
          refine jp (pa (ht rfl)) rfl rfl rfl ?_
          refine j_end ?_
          obtain rfl := oi h
          exact run_ret fun a w hst => q_retN hst rfl (.cons (.tmp rfl) <| .cons (.tmp rfl) <| .nil) rfl v4 (fun _ _ h => h) (.cons (.next .here) <| .cons .here <| .nil)
        · replace h := bf e13 h
          refine run_skip ?_
          refine rs ?_
          refine rt ?_
          refine jp (pm (ht rfl)) rfl rfl rfl ?_
          refine jp (pm (ht rfl)) rfl rfl rfl ?_
          refine jp (pm (ht rfl)) rfl rfl rfl ?_
          obtain ⟨r5, e14, h⟩ := bind_some h
          refine jp (pj_call (hc (ht rfl) <| hc (ht rfl) <| hc (ht rfl) <| hasL_nil) (by kernel_rfl) (Ctr.froze2 (c_lms_Tree_Sign hg0 hg1 hg2 e14))) rfl rfl rfl ?_
          refine jp (pm (ht rfl)) rfl rfl rfl ?_
          refine jp (pj_extract (ht rfl) rfl) rfl rfl rfl ?_
          refine jp (pj_extract (ht rfl) rfl) rfl rfl rfl ?_
          refine jp (pa (ht rfl)) rfl rfl rfl ?_
          refine jp (pa (ht rfl)) rfl rfl rfl ?_
          refine j_end ?_
          refine rs ?_
          refine rs ?_
          refine rt ?_
          refine jp (pm (ht rfl)) rfl rfl rfl ?_
          refine jp (pj_ineq (ht rfl) has_i64) rfl rfl rfl ?_
          refine j_end ?_
          refine run_cond (ht rfl) (fun e15 => ?_) (fun e15 => ?_)
          · replace h := bt e15 h
            refine rs ?_
            refine rt ?_
            refine jp (pm (ht rfl)) rfl rfl rfl ?_
            refine j_assign_nil (T := 5) u8 rfl fun v5 => ?_
            refine jp (pa (ht rfl)) rfl rfl rfl ?_
            refine j_end ?_
            obtain rfl := oi h
            exact run_ret fun a w hst => q_retN hst rfl (.cons (.tmp rfl) <| .cons (.tmp rfl) <| .nil) rfl v5 (fun _ _ h => h) (.cons (.next .here) <| .cons .here <| .nil)
          · replace h := bf e15 h
            refine run_skip ?_
            refine rs ?_
            refine rt ?_
            refine jp (pj_buildSlice (T := 5) (R := u8) (.cons (has_un (x := 0#8) rfl) (.cons (has_un (x := 0#8) rfl) (.cons (has_un (x := 0#8) rfl) (.cons (has_un (x := 1#8) rfl) .nil)))) rfl (by kernel_rfl) (by kernel_rfl)) rfl rfl rfl ?_
            refine jp (pm (ht rfl)) rfl rfl rfl ?_
            refine jp (pm (ht rfl)) rfl rfl rfl ?_
            refine jp (pm (ht rfl)) rfl rfl rfl ?_
            refine jp (pj_buildSlice (T := 31) (R := (sl u8)) (.cons (ht rfl) (.cons (ht rfl) (.cons (ht rfl) (.cons (ht rfl) .nil)))) rfl (by kernel_rfl) (by kernel_rfl)) rfl rfl rfl ?_
            obtain ⟨r6, e16, h⟩ := bind_some h
            refine j_call (hc (ht rfl) <| hasL_nil) (by kernel_rfl) (c_slices_Concat_byte_byte e16) .nil rfl fun v6 => ?_
            refine jp (pa (ht rfl)) rfl rfl rfl ?_
            refine jp (pa has_i64) rfl rfl rfl ?_
            refine j_end ?_
            obtain rfl := oi h
            exact run_ret fun a w hst => q_retN hst rfl (.cons (.tmp rfl) <| .cons (.tmp rfl) <| .nil) rfl v6 (fun _ _ h => h) (.cons (.next .here) <| .cons .here <| .nil)
  · rcases bool_tf (decide (p_n < (0 : Int))) with e2 | e2
    · replace e3 := bt e2 e3
      refine j_guard_no2 (j := 2) (want := false) rfl rfl rfl rfl (bl_isx e2) rfl rfl rfl ?_
      refine j_guard_no2 (j := 2) (want := false) rfl rfl rfl rfl (bl_isx e2) rfl rfl rfl ?_
      refine j_guard_no2 (j := 2) (want := false) rfl rfl rfl rfl (bl_isx e2) rfl rfl rfl ?_
      refine j_guard_no2 (j := 2) (want := false) rfl rfl rfl rfl (bl_isx e2) rfl rfl rfl ?_
      refine jp (PJ.eqv (R := bl) (pj_pick (t := any) (ht rfl) (fun _ => has_bl) (fun he => absurd (e2.symm.trans he) (by decide))) (oi e3)) rfl rfl rfl ?_
      exact j_to (.cons (.of_lk rfl) <| .cons (.of_lk rfl) <| .cons (.of_lk rfl) <| .cons (.of_lk rfl) <| .nil) (.cons (.next .here) <| .nil) (J ())
    · replace e3 := bf e2 e3
      refine jy (pm (ht rfl)) rfl rfl rfl rfl (bl_isx e2) rfl rfl ?_
      refine jy (pm (ht rfl)) rfl rfl rfl rfl (bl_isx e2) rfl rfl ?_
      obtain ⟨r1, e4, e3⟩ := bind_some e3
      refine jy (pj_callR (hc (ht rfl) <| hasL_nil) (.next .here) (by kernel_rfl) (fun _ => (c_hss_Signer_Keys e4))) rfl rfl rfl rfl (bl_isx e2) rfl rfl ?_
      refine jy (pj_igeq (ht rfl) (ht rfl)) rfl rfl rfl rfl (bl_isx e2) rfl rfl ?_
      refine jp (PJ.eqv (R := bl) (pj_pick (t := any) (ht rfl) (fun he => absurd (e2.symm.trans he) (by decide)) (fun _ => (ht rfl))) (oi e3)) rfl rfl rfl ?_
      exact j_to (.cons (.of_lk rfl) <| .cons (.of_lk rfl) <| .cons (.of_lk rfl) <| .cons (.of_lk rfl) <| .nil) (.cons (.next .here) <| .nil) (J ())
set_option maxRecDepth 100000 in
set_option maxHeartbeats 4000000 in
theorem c_head_Sign {G : GP} (hg0 : HG0 G) (hg1 : HG1 G) (hg2 : HG2 G) {p_s : Int × Int × T_api_Hash × (Option T_lms_Tree) × (Option T_lms_Tree) × Int} {p_n : Int} {p_h : T_head_Head} {b_s : Nat} {r : (Int × Int × T_api_Hash × (Option T_lms_Tree) × (Option T_lms_Tree) × Int) × T_head_Signed × Int} (h : head_Sign p_s p_n p_h = some r) : Ctr Tryz.prog G 9 [val (.pointer (some ⟨b_s, 0, none⟩)), i64.slot p_n, R_head_Head.slot p_h] [box b_s 102 (prod i64 (prod i64 (prod R_api_Hash (prod (ptr R_lms_Tree) (prod (ptr R_lms_Tree) i64))))) (p_s.1, p_s.2.1, p_s.2.2.1, p_s.2.2.2.1, p_s.2.2.2.2.1, p_s.2.2.2.2.2)] (fun (_ : Unit) => tup [R_head_Signed.slot r.2.1, i64.slot r.2.2]) (fun (_ : Unit) => [box b_s 102 (prod i64 (prod i64 (prod R_api_Hash (prod (ptr R_lms_Tree) (prod (ptr R_lms_Tree) i64))))) (r.1.1, r.1.2.1, r.1.2.2.1, r.1.2.2.2.1, r.1.2.2.2.2.1, r.1.2.2.2.2.2)]) := by
  unfold head_Sign at h
  refine ctr_of_run Tryz.func9 rfl 34 rfl rfl fun m0 w0 b0 => ?_
  show Run _ _ _ [(0, val (.pointer (some ⟨b_s, 0, none⟩))), (1, i64.slot p_n), (2, R_head_Head.slot p_h)] _
  refine rs ?_
  refine rt ?_
  refine jp (pj_box_to (ht rfl)) rfl rfl rfl ?_
  refine j_alloc (x := ((0, 0, (Vector.replicate 32 (0#8)), (Vector.replicate 32 (0#8))), ([] : List (BitVec 8)))) (R := R_head_Signed) (zero_prod (zero_prod zero_i64 (zero_prod zero_i64 (zero_prod (zero_vec 32 zero_un) (zero_vec 32 zero_un)))) zero_sl) (by kernel_rfl) rfl fun b1 => ?_
  refine jp (pa has_i64) rfl rfl rfl ?_
  refine j_end ?_
  refine rs ?_
  refine rt ?_
  refine jp (pl (ht rfl) (by kernel_rfl)) rfl rfl rfl ?_
  obtain ⟨r1, e1, h⟩ := bind_some h
  refine jp (pj_call (hc (ht rfl) <| hasL_nil) (by kernel_rfl) (Ctr.froze2 (c_head_Encode e1))) rfl rfl rfl ?_
  refine jp (pm (ht rfl)) rfl rfl rfl ?_
  refine jp (pj_extract (ht rfl) rfl) rfl rfl rfl ?_
  refine jp (pj_extract (ht rfl) rfl) rfl rfl rfl ?_
  refine jp (pa (ht rfl)) rfl rfl rfl ?_
  refine jp (pa (ht rfl)) rfl rfl rfl ?_
  refine j_end ?_
  refine rs ?_
  refine rs ?_
  refine rt ?_
  refine jp (pm (ht rfl)) rfl rfl rfl ?_
  refine jp (pj_ineq (ht rfl) has_i64) rfl rfl rfl ?_
  refine j_end ?_
  refine run_cond (ht rfl) (fun e2 => ?_) (fun e2 => ?_)
  · replace h := bt e2 h
    refine rs ?_
    refine rt ?_
    refine jp (pj_build (R := R_head_Signed) (zero_prod (zero_prod zero_i64 (zero_prod zero_i64 (zero_prod (zero_vec 32 zero_un) (zero_vec 32 zero_un)))) zero_sl) (by kernel_rfl) (by kernel_rfl) rfl .nil) rfl rfl rfl ?_
    refine jp (pm (ht rfl)) rfl rfl rfl ?_
    obtain ⟨x1, e3, h⟩ := bind_some h
    refine j_store_boxx (r' := x1) (ht rfl) (ht rfl) .here (Path.all R_head_Signed) (by kernel_rfl) (oi e3) ?_
    refine jp (pa (ht rfl)) rfl rfl rfl ?_
    refine j_end ?_
    obtain rfl := oi h
    exact run_ret fun a w hst => q_retN hst rfl (.cons (.cell rfl .here (by kernel_rfl)) <| .cons (.tmp rfl) <| .nil) rfl () (fun _ _ h => h) (.cons (.next .here) <| .nil)
  · replace h := bf e2 h
    refine run_skip ?_
    refine rs ?_
    refine rt ?_
    refine jp (pm (ht rfl)) rfl rfl rfl ?_
    refine jp (pm (ht rfl)) rfl rfl rfl ?_
    refine jp (pm (ht rfl)) rfl rfl rfl ?_
    obtain ⟨r2, e4, h⟩ := bind_some h
    refine j_call (hc (ht rfl) <| hc (ht rfl) <| hc (ht rfl) <| hasL_nil) (by kernel_rfl) (c_hss_Signer_Sign hg0 hg1 hg2 e4) (.cons (.next .here) <| .nil) rfl fun v1 => ?_
    refine jp (pm (ht rfl)) rfl rfl rfl ?_
    refine jp (pj_extract (ht rfl) rfl) rfl rfl rfl ?_
    refine jp (pj_extract (ht rfl) rfl) rfl rfl rfl ?_
    refine jp (pa (ht rfl)) rfl rfl rfl ?_
    refine jp (pa (ht rfl)) rfl rfl rfl ?_
    refine j_end ?_
    refine rs ?_
    refine rs ?_
    refine rt ?_
    refine jp (pm (ht rfl)) rfl rfl rfl ?_
    refine jp (pj_ineq (ht rfl) has_i64) rfl rfl rfl ?_
    refine j_end ?_
    refine run_cond (ht rfl) (fun e5 => ?_) (fun e5 => ?_)
    · replace h := bt e5 h
      refine rs ?_
      refine rt ?_
      refine jp (pj_build (R := R_head_Signed) (zero_prod (zero_prod zero_i64 (zero_prod zero_i64 (zero_prod (zero_vec 32 zero_un) (zero_vec 32 zero_un)))) zero_sl) (by kernel_rfl) (by kernel_rfl) rfl .nil) rfl rfl rfl ?_
      refine jp (pm (ht rfl)) rfl rfl rfl ?_
      obtain ⟨x2, e6, h⟩ := bind_some h
      refine j_store_boxx (r' := x2) (ht rfl) (ht rfl) (.next (.next .here)) (Path.all R_head_Signed) (by kernel_rfl) (oi e6) ?_
      refine jp (pa (ht rfl)) rfl rfl rfl ?_
      refine j_end ?_
      obtain rfl := oi h
      exact run_ret fun a w hst => q_retN hst rfl (.cons (.cell rfl .here (by kernel_rfl)) <| .cons (.tmp rfl) <| .nil) rfl () (fun _ _ h => h) (.cons (.next .here) <| .nil)
    · replace h := bf e5 h
      refine run_skip ?_
      refine rs ?_
      refine rt ?_
      refine jp (pl (ht rfl) (by kernel_rfl)) rfl rfl rfl ?_
      refine jp (pm (ht rfl)) rfl rfl rfl ?_
      refine j_freeze [10, 25, 32] (.next .here) (frz_cons (.of_lk rfl) <| frz_cons (.of_lk rfl) <| frz_cons (.of_lk rfl) <| frz_nil) ?_
      obtain ⟨x3, e7, h⟩ := bind_some h
      refine jp (PJ.eqv (pj_build (R := R_head_Signed) (zero_prod (zero_prod zero_i64 (zero_prod zero_i64 (zero_prod (zero_vec 32 zero_un) (zero_vec 32 zero_un)))) zero_sl) (by kernel_rfl) (by kernel_rfl) rfl (.cons (ht rfl) (Path.fst R_head_Head (sl u8)) (by kernel_rfl) (.cons (ht rfl) (Path.snd R_head_Head (sl u8)) (by kernel_rfl) .nil))) (oi e7)) rfl rfl rfl ?_
      refine j_store_boxx (r' := x3) (ht rfl) (ht rfl) (.next .here) (Path.all R_head_Signed) (by kernel_rfl) rfl ?_
      refine jp (pa has_i64) rfl rfl rfl ?_
      refine j_end ?_
      obtain rfl := oi h
      exact run_ret fun a w hst => q_retN hst rfl (.cons (.cell rfl .here (by kernel_rfl)) <| .cons (.tmp rfl) <| .nil) rfl () (fun _ _ h => h) (.cons (.next .here) <| .nil)
end Go.Sl.W
